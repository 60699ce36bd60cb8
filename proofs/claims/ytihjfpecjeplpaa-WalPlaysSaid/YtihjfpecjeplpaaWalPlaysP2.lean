/- An interpreter of Go code over a small abstract heap, proved sound against the model, and what the functions that WalPlays reaches compute (part 2); each theorem for the inputs that it names. -/
import Derived.Test.YtihjfpecjeplpaaWalPlaysP1
import Derived.Shelf.Bytes.SlCountOne
import Derived.LoopN
import Derived.Test.YtihjfpecjeplpaaChecked
import Derived.Laws.Entries
import Derived.OpenShut
import Derived.Laws.Strings
set_option linter.unusedSimpArgs false
set_option linter.unusedVariables false
set_option linter.defProp false

namespace Go.Ax
open Go Go.RowKit
theorem range_split {i n : Nat} (h : i ≤ n) : List.range n = List.range i ++ List.range' i (n - i) := by
  have h2 := @List.range'_append_1 0 i (n - i)
  rw [List.range_eq_range', List.range_eq_range']
  rw [Nat.zero_add] at h2
  rw [h2]
  congr 1
  omega
theorem filter_upto {n i : Nat} (h : i ≤ n) {p q : Nat → Bool} (h1 : ∀ j, j < i → p j = q j) (h2 : ∀ j, i ≤ j → j < n → p j = false) : (List.range n).filter p = (List.range i).filter q := by
  rw [range_split h, List.filter_append]
  have e1 : (List.range' i (n - i)).filter p = [] := by
    rw [List.filter_eq_nil_iff]
    intro j hj
    rw [List.mem_range'_1] at hj
    rw [h2 j hj.1 (by omega)]
    simp
  rw [e1, List.append_nil]
  exact List.filter_congr fun j hj => h1 j (List.mem_range.1 hj)
theorem last_upto {n i : Nat} (h : i < n) {p : Nat → Bool} (hi : p i = true) (h2 : ∀ j, i < j → j < n → p j = false) : ((List.range n).filter p).getLast? = some i := by
  rw [filter_upto (q := p) (show i + 1 ≤ n by omega) (fun _ _ => rfl) (fun j hj hn => h2 j (by omega) hn), List.range_succ, List.filter_append, List.filter_cons_of_pos hi, List.filter_nil]
  simp
section
variable {P : Program} {T : Tab} {B : Nat} {w0 : World}
variable {C : Cfg} {call : CallF} {mode : Bool} {f : FuncId}
structure Ran (C : Cfg) (call : CallF) (mode : Bool) (f : FuncId) (ops : Array Oper) (tm : List AV) (h : Heap) (stT : Nat → List AV) (stH : Nat → Heap) (val : Nat → AV) : Prop where
  step : ∀ (i : Nat) (o : Oper), ops.toList[i]? = some o → stepA C call mode f ops o (stT i) (stH i) = some (val i, stH (i + 1))
  slots : ∀ i, i ≤ ops.size → stT i = putAll ops.toList val tm (List.range i)
  start : stH 0 = h
  edges : ∀ (j : Nat) (o : Oper), ops.toList[j]? = some o → ∀ e ∈ o.after.toList, Region.binds .any e = true → e.on < j
  pairs : ∀ (i j : Nat) (o' o : Oper), i < j → ops.toList[i]? = some o' → ops.toList[j]? = some o → ord (masks ops.toList []) i j = true ∨ (¬ (isEff C f o' = true ∧ isEff C f o = true) ∧ Oper.apart ops o' o = true)
  reads : ∀ (i e : Nat) (o o' : Oper), ops.toList[i]? = some o → ops.toList[e]? = some o' → isRead C f o = true → isEff C f o' = true → guardA ops (stT i) o.guard = some true →
    ord (masks ops.toList []) i e = false → ord (masks ops.toList []) e i = false → exRead C.T (evalA (stT i)) o (stH (if i < e then e + 1 else e)) = some (val i)
theorem kind_pure {o : Oper} (h1 : isEff C f o = false) (h2 : isRead C f o = false) : isFrz C f o = false ∧ opKind C f o = .pure := by
  unfold isEff at h1
  unfold isRead at h2
  unfold kindOf at h1 h2
  cases hz : isFrz C f o with
  | true => rw [hz] at h1; simp at h1
  | false =>
    rw [hz] at h1 h2
    simp only [Bool.false_eq_true, if_false] at h1 h2
    refine ⟨rfl, ?_⟩
    cases ho : opKind C f o <;> simp_all
theorem kind_read {o : Oper} (h2 : isRead C f o = true) : isFrz C f o = false ∧ opKind C f o = .read := by
  unfold isRead kindOf at h2
  cases hz : isFrz C f o with
  | true => rw [hz] at h2; simp at h2
  | false =>
    rw [hz] at h2
    simp only [Bool.false_eq_true, if_false] at h2
    exact ⟨rfl, by simpa using h2⟩
theorem exOp_pure {o : Oper} {ρ : Operand → AV} {h h' : Heap} {v : AV} (h1 : isEff C f o = false) (h2 : isRead C f o = false) (he : exOp C call mode f ρ o h = some (v, h')) :
    h' = h ∧ ∀ g, exOp C call mode f ρ o g = some (v, g) := by
  obtain ⟨hz, hk⟩ := kind_pure h1 h2
  unfold exOp exBase at he ⊢
  rw [hk, hz] at he
  rw [hk, hz]
  simp only [Bool.false_eq_true, if_false] at he ⊢
  cases hp : exPure C.T ρ o with
  | none => simp [hp] at he
  | some v' =>
    simp only [hp, Option.some.injEq, Prod.mk.injEq] at he ⊢
    exact ⟨he.2.symm, fun g => ⟨he.1, trivial⟩⟩
theorem exOp_read {o : Oper} {ρ : Operand → AV} {h h' : Heap} {v : AV} (h2 : isRead C f o = true) (he : exOp C call mode f ρ o h = some (v, h')) :
    h' = h ∧ exRead C.T ρ o h = some v ∧ ∀ g, exRead C.T ρ o g = some v → exOp C call mode f ρ o g = some (v, g) := by
  obtain ⟨hz, hk⟩ := kind_read h2
  unfold exOp exBase at he ⊢
  rw [hk, hz] at he
  rw [hk, hz]
  simp only [Bool.false_eq_true, if_false] at he ⊢
  cases hp : exRead C.T ρ o h with
  | none => simp [hp] at he
  | some v' =>
    simp only [hp, Option.some.injEq, Prod.mk.injEq] at he ⊢
    exact ⟨he.2.symm, he.1, fun g hg => by simp [hg]⟩
section
variable {ops : Array Oper} {tm : List AV} {h : Heap} {stT : Nat → List AV} {stH : Nat → Heap} {val : Nat → AV}
theorem Ran.quiet (r : Ran C call mode f ops tm h stT stH val) {i : Nat} {o : Oper} (ho : ops.toList[i]? = some o) (he : isEff C f o = false) : stH (i + 1) = stH i := by
  have hs := r.step i o ho
  unfold stepA at hs
  split at hs
  · cases hr : isRead C f o with
    | true => exact (exOp_read hr hs).1
    | false => exact (exOp_pure he hr hs).1
  · simp only [Option.some.injEq, Prod.mk.injEq] at hs; exact hs.2.symm
  · cases hs
theorem Ran.quiets (r : Ran C call mode f ops tm h stT stH val) {a : Nat} : ∀ (b : Nat), a ≤ b → b ≤ ops.size → (∀ (j : Nat) (o : Oper), a ≤ j → j < b → ops.toList[j]? = some o → isEff C f o = false) → stH b = stH a := by
  intro b
  induction b with
  | zero => intro h1 _ _; rw [show a = 0 by omega]
  | succ b ih =>
    intro h1 h2 h3
    by_cases he : a = b + 1
    · rw [he]
    · have ho : ops.toList[b]? = some ops.toList[b] := List.getElem?_eq_getElem (by rw [Array.length_toList]; omega)
      rw [r.quiet ho (h3 b _ (by omega) (by omega) ho)]
      exact ih (by omega) (by omega) fun j o hj1 hj2 => h3 j o hj1 (by omega)
def doneL (n : Nat) (listed : Array Bool) : List Nat := (List.range n).filter fun j => listed.getD j false
structure Inv (C : Cfg) (f : FuncId) (ops : Array Oper) (tm : List AV) (stH : Nat → Heap) (val : Nat → AV) (listed : Array Bool) (tmc : List AV) (hc : Heap) : Prop where
  size : listed.size = ops.size
  slots : tmc = putAll ops.toList val tm (doneL ops.size listed)
  heap : ∃ k, k ≤ ops.size ∧ hc = stH k ∧ ∀ (i : Nat) (o : Oper), ops.toList[i]? = some o → isEff C f o = true → (listed.getD i false = true ↔ i < k)
  closed : ∀ (j : Nat) (o : Oper), listed.getD j false = true → ops.toList[j]? = some o → ∀ e ∈ o.after.toList, Region.binds .any e = true → listed.getD e.on false = true
theorem Inv.ordered (r : Ran C call mode f ops tm h stT stH val) {listed : Array Bool} {tmc hc} (I : Inv C f ops tm stH val listed tmc hc) {i j : Nat} (hj : listed.getD j false = true) (hlt : j < ops.size)
    (ho : ord (masks ops.toList []) i j = true) : listed.getD i false = true :=
  (ord_closed (X := fun j => listed.getD j false = true) r.edges I.closed j hj (by rw [Array.length_toList]; exact hlt) i ho).1
theorem Inv.ahead (r : Ran C call mode f ops tm h stT stH val) {listed : Array Bool} {tmc hc} (I : Inv C f ops tm stH val listed tmc hc) {i j : Nat} {o : Oper} (hj : ops.toList[j]? = some o)
    (hready : ∀ e ∈ o.after.toList, Region.binds .any e = true → listed.getD e.on false = true) (ho : ord (masks ops.toList []) i j = true) : listed.getD i false = true := by
  have hlt : j < ops.toList.length := (List.getElem?_eq_some_iff.1 hj).1
  have := ord_closed (ops := ops.toList) (X := fun q => listed.getD q false = true ∨ q = j) r.edges (fun q o' hq hoq e he hb => by
    rcases hq with hq | rfl
    · exact .inl (I.closed q o' hq hoq e he hb)
    · rw [hj] at hoq; cases hoq; exact .inl (hready e he hb)) j (.inr rfl) hlt i ho
  rcases this.1 with h1 | h1
  · exact h1
  · omega
theorem apart_left {x y : Oper} {d : Nat} (h : Oper.apart ops x y = true) (hd : x.dst = some d) : d ∉ y.looksAt ops ∧ y.dst ≠ some d := ⟨(Oper.apart_spec h).1 d hd, (Oper.apart_spec h).2.1 d hd⟩
theorem apart_right {x y : Oper} {d : Nat} (h : Oper.apart ops x y = true) (hd : y.dst = some d) : d ∉ x.looksAt ops := (Oper.apart_spec h).2.2 d hd
theorem writes_get {t i : Nat} (h : writes ops.toList t i = true) : ∃ o, ops.toList[i]? = some o ∧ o.dst = some t := by
  unfold writes at h
  cases ho : ops.toList[i]? with
  | none => simp [ho] at h
  | some o => exact ⟨o, rfl, by simpa [ho] using h⟩
theorem Inv.step (r : Ran C call mode f ops tm h stT stH val) {listed : Array Bool} {tmc : List AV} {hc : Heap} (I : Inv C f ops tm stH val listed tmc hc) {i : Nat} {o : Oper} (ho : ops.toList[i]? = some o)
    (hn : listed.getD i false = false) (hready : ∀ e ∈ o.after.toList, Region.binds .any e = true → listed.getD e.on false = true) :
    ∃ hc', stepA C call mode f ops o tmc hc = some (val i, hc') ∧ Inv C f ops tm stH val (listed.setIfInBounds i true) (putT tmc o.dst (val i)) hc' := by
  have hi : i < ops.size := by have := (List.getElem?_eq_some_iff.1 ho).1; rwa [Array.length_toList] at this
  have ahead := fun {j : Nat} (hj : ord (masks ops.toList []) j i = true) => I.ahead r ho hready hj
  have behind : ∀ {j : Nat}, j < ops.size → ord (masks ops.toList []) i j = true → listed.getD j false = false := fun {j} hjn hj => by
    cases hl : listed.getD j false with
    | false => rfl
    | true => have := I.ordered r hl hjn hj; rw [hn] at this; cases this
  -- the slots that it looks at are as they were
  have agree : ∀ t, t ∈ o.looksAt ops → tmc[t]? = (stT i)[t]? := by
    intro t ht
    rw [I.slots, r.slots i (by omega)]
    refine putAll_same _ _ _ _ ?_
    unfold doneL
    rw [List.filter_filter]
    refine filter_upto (by omega) (fun j hj => ?_) (fun j hj1 hj2 => ?_)
    · cases hw : writes ops.toList t j with
      | false => simp
      | true =>
        obtain ⟨o', ho', hd'⟩ := writes_get hw
        rcases r.pairs j i o' o hj ho' ho with h1 | ⟨-, h1⟩
        · simpa using ahead h1
        · exact absurd ht (apart_left h1 hd').1
    · cases hw : writes ops.toList t j with
      | false => simp
      | true =>
        obtain ⟨o', ho', hd'⟩ := writes_get hw
        by_cases hji : j = i
        · subst hji; simpa using hn
        · rcases r.pairs i j o o' (by omega) ho ho' with h1 | ⟨-, h1⟩
          · simpa using behind hj2 h1
          · exact absurd ht (apart_right h1 hd')
  have hguard : guardA ops tmc o.guard = guardA ops (stT i) o.guard := by
    unfold guardA
    cases hg : o.guard with
    | none => rfl
    | some jw =>
      obtain ⟨j, want⟩ := jw
      simp only
      cases hd : (ops[j]?).bind (·.dst) with
      | none => rfl
      | some d =>
        have : d ∈ o.looksAt ops := by
          unfold Oper.looksAt
          rw [hg]
          simp only [hd]
          exact List.mem_append.2 (.inr (by simp))
        simp only [agree d this]
  have hops : ∀ x ∈ o.op.operands.toList, evalA tmc x = evalA (stT i) x := by
    intro x hx
    cases x with
    | tmp t =>
      have : t ∈ o.looksAt ops := by
        unfold Oper.looksAt
        exact List.mem_append.2 (.inl (List.mem_filterMap.2 ⟨_, hx, rfl⟩))
      simp only [evalA, List.getD_eq_getElem?_getD, agree t this]
    | _ => rfl
  obtain ⟨k, hk, hhc, hkeff⟩ := I.heap
  have hstep := r.step i o ho
  have effdone : ∀ (j : Nat) (o' : Oper), ops.toList[j]? = some o' → isEff C f o' = true → j < i → isEff C f o = true → listed.getD j false = true := by
    intro j o' ho' he' hji he
    rcases r.pairs j i o' o hji ho' ho with h1 | ⟨h1, -⟩
    · exact ahead h1
    · exact absurd ⟨he', he⟩ h1
  have efflater : ∀ (j : Nat) (o' : Oper), ops.toList[j]? = some o' → isEff C f o' = true → i < j → isEff C f o = true → listed.getD j false = false := by
    intro j o' ho' he' hji he
    have hjn : j < ops.size := by have := (List.getElem?_eq_some_iff.1 ho').1; rwa [Array.length_toList] at this
    rcases r.pairs i j o o' hji ho ho' with h1 | ⟨h1, -⟩
    · exact behind hjn h1
    · exact absurd ⟨he, he'⟩ h1
  -- what it comes to, and the heap behind it
  have hval : ∃ hc', stepA C call mode f ops o tmc hc = some (val i, hc') ∧ ∃ k', k' ≤ ops.size ∧ hc' = stH k' ∧
      ∀ (j : Nat) (o' : Oper), ops.toList[j]? = some o' → isEff C f o' = true → ((listed.setIfInBounds i true).getD j false = true ↔ j < k') := by
    have hset : ∀ j, j ≠ i → (listed.setIfInBounds i true).getD j false = listed.getD j false := fun j hj => getD_set_ne false (fun e => hj e.symm)
    have hsame : isEff C f o = false → ∀ (j : Nat) (o' : Oper), ops.toList[j]? = some o' → isEff C f o' = true → ((listed.setIfInBounds i true).getD j false = true ↔ j < k) := by
      intro he j o' ho' he'
      have hji : j ≠ i := fun e => by subst e; rw [ho] at ho'; cases ho'; rw [he] at he'; cases he'
      rw [hset j hji]
      exact hkeff j o' ho' he'
    unfold stepA at hstep ⊢
    rw [hguard]
    cases hg : guardA ops (stT i) o.guard with
    | none => simp [hg] at hstep
    | some b =>
      cases b with
      | false =>
        simp only [hg, Option.some.injEq, Prod.mk.injEq] at hstep ⊢
        refine ⟨hc, ⟨hstep.1, rfl⟩, ?_⟩
        cases he : isEff C f o with
        | false => exact ⟨k, hk, hhc, hsame he⟩
        | true =>
          have hki : k ≤ i := by
            rcases Nat.lt_or_ge i k with h1 | h1
            · have := (hkeff i o ho he).2 h1; rw [hn] at this; cases this
            · exact h1
          have hq : stH i = stH k := r.quiets i hki (by omega) fun j o' hj1 hj2 ho' => by
            cases he' : isEff C f o' with
            | false => rfl
            | true => have := (hkeff j o' ho' he').1 (effdone j o' ho' he' hj2 he); omega
          refine ⟨i + 1, by omega, by rw [hhc, ← hq, ← hstep.2], fun j o' ho' he' => ?_⟩
          rcases Nat.lt_trichotomy j i with hlt | rfl | hgt
          · rw [hset j (by omega)]
            exact ⟨fun _ => by omega, fun _ => effdone j o' ho' he' hlt he⟩
          · exact ⟨fun _ => by omega, fun _ => by simp [Array.getD_eq_getD_getElem?, I.size, hi]⟩
          · rw [hset j (by omega)]
            constructor
            · intro h1; rw [efflater j o' ho' he' hgt he] at h1; cases h1
            · intro h1; omega
      | true =>
        simp only [hg] at hstep
        simp only
        rw [exOp_congr hops]
        cases he : isEff C f o with
        | true =>
          have hki : k ≤ i := by
            rcases Nat.lt_or_ge i k with h1 | h1
            · have := (hkeff i o ho he).2 h1; rw [hn] at this; cases this
            · exact h1
          have hq : stH i = stH k := r.quiets i hki (by omega) fun j o' hj1 hj2 ho' => by
            cases he' : isEff C f o' with
            | false => rfl
            | true => have := (hkeff j o' ho' he').1 (effdone j o' ho' he' hj2 he); omega
          refine ⟨stH (i + 1), by rw [hhc, ← hq]; exact hstep, i + 1, by omega, rfl, fun j o' ho' he' => ?_⟩
          rcases Nat.lt_trichotomy j i with hlt | rfl | hgt
          · rw [hset j (by omega)]
            exact ⟨fun _ => by omega, fun _ => effdone j o' ho' he' hlt he⟩
          · exact ⟨fun _ => by omega, fun _ => by simp [Array.getD_eq_getD_getElem?, I.size, hi]⟩
          · rw [hset j (by omega)]
            constructor
            · intro h1; rw [efflater j o' ho' he' hgt he] at h1; cases h1
            · intro h1; omega
        | false =>
          cases hr : isRead C f o with
          | false =>
            obtain ⟨-, h2⟩ := exOp_pure he hr hstep
            exact ⟨hc, h2 hc, k, hk, hhc, hsame he⟩
          | true =>
            obtain ⟨-, h3, h2⟩ := exOp_read hr hstep
            refine ⟨hc, h2 hc ?_, k, hk, hhc, hsame he⟩
            rw [hhc]
            -- the heap tells the same here as at the text's own place
            by_cases hex : ∃ e o', ops.toList[e]? = some o' ∧ isEff C f o' = true ∧ ((i ≤ e ∧ e < k) ∨ (k ≤ e ∧ e < i))
            · rcases Nat.lt_or_ge i k with hik | hik
              · -- the last effect that is done behind it
                have hlast : ∃ e o', ops.toList[e]? = some o' ∧ isEff C f o' = true ∧ i ≤ e ∧ e < k ∧ ∀ j o'', e < j → j < k → ops.toList[j]? = some o'' → isEff C f o'' = false := by
                  obtain ⟨e0, o0, h4, h5, h6⟩ := hex
                  have h7 : i ≤ e0 ∧ e0 < k := by rcases h6 with h6 | h6 <;> omega
                  have key : ∀ d e0 o0, k - e0 = d → ops.toList[e0]? = some o0 → isEff C f o0 = true → i ≤ e0 → e0 < k →
                      ∃ e o', ops.toList[e]? = some o' ∧ isEff C f o' = true ∧ i ≤ e ∧ e < k ∧ ∀ j o'', e < j → j < k → ops.toList[j]? = some o'' → isEff C f o'' = false := by
                    intro d
                    induction d using Nat.strongRecOn with
                    | _ d ihd =>
                      intro e0 o0 hd0 h4 h5 h7 h8
                      by_cases hmore : ∃ j o'', e0 < j ∧ j < k ∧ ops.toList[j]? = some o'' ∧ isEff C f o'' = true
                      · obtain ⟨j, o'', h9, h10, h11, h12⟩ := hmore
                        exact ihd (k - j) (by omega) j o'' rfl h11 h12 (by omega) h10
                      · refine ⟨e0, o0, h4, h5, h7, h8, fun j o'' h9 h10 h11 => ?_⟩
                        cases h12 : isEff C f o'' with
                        | false => rfl
                        | true => exact absurd ⟨j, o'', h9, h10, h11, h12⟩ hmore
                  exact key _ e0 o0 rfl h4 h5 h7.1 h7.2
                obtain ⟨e, o', h4, h5, h6, h7, h8⟩ := hlast
                have hie : i < e := by
                  rcases Nat.lt_or_ge i e with h9 | h9
                  · exact h9
                  · have : e = i := by omega
                    subst this
                    rw [ho] at h4
                    cases h4
                    rw [he] at h5
                    cases h5
                have hen : e < ops.size := by omega
                have hdone : listed.getD e false = true := (hkeff e o' h4 h5).2 h7
                have h9 : ord (masks ops.toList []) i e = false := by
                  cases h10 : ord (masks ops.toList []) i e with
                  | false => rfl
                  | true => have := behind hen h10; rw [this] at hdone; cases hdone
                have h11 : ord (masks ops.toList []) e i = false := by
                  cases h10 : ord (masks ops.toList []) e i with
                  | false => rfl
                  | true => have := ord_lt r.edges (by rw [Array.length_toList]; exact hi) h10; omega
                have h12 := r.reads i e o o' ho h4 hr h5 hg h9 h11
                rw [if_pos hie] at h12
                rw [r.quiets (a := e + 1) k (by omega) hk (fun j o'' h13 h14 h15 => h8 j o'' (by omega) h14 h15)]
                exact h12
              · -- the first effect ahead of it that is not done
                have hfirst : ∃ e o', ops.toList[e]? = some o' ∧ isEff C f o' = true ∧ k ≤ e ∧ e < i ∧ ∀ j o'', k ≤ j → j < e → ops.toList[j]? = some o'' → isEff C f o'' = false := by
                  obtain ⟨e0, o0, h4, h5, h6⟩ := hex
                  have h7 : k ≤ e0 ∧ e0 < i := by rcases h6 with h6 | h6 <;> omega
                  have key : ∀ e0 o0, ops.toList[e0]? = some o0 → isEff C f o0 = true → k ≤ e0 → e0 < i →
                      ∃ e o', ops.toList[e]? = some o' ∧ isEff C f o' = true ∧ k ≤ e ∧ e < i ∧ ∀ j o'', k ≤ j → j < e → ops.toList[j]? = some o'' → isEff C f o'' = false := by
                    intro e0
                    induction e0 using Nat.strongRecOn with
                    | _ e0 ihd =>
                      intro o0 h4 h5 h7 h8
                      by_cases hmore : ∃ j o'', k ≤ j ∧ j < e0 ∧ ops.toList[j]? = some o'' ∧ isEff C f o'' = true
                      · obtain ⟨j, o'', h9, h10, h11, h12⟩ := hmore
                        exact ihd j h10 o'' h11 h12 h9 (by omega)
                      · refine ⟨e0, o0, h4, h5, h7, h8, fun j o'' h9 h10 h11 => ?_⟩
                        cases h12 : isEff C f o'' with
                        | false => rfl
                        | true => exact absurd ⟨j, o'', h9, h10, h11, h12⟩ hmore
                  exact key e0 o0 h4 h5 h7.1 h7.2
                obtain ⟨e, o', h4, h5, h6, h7, h8⟩ := hfirst
                have hen : e < ops.size := by omega
                have hnot : listed.getD e false = false := by
                  cases h9 : listed.getD e false with
                  | false => rfl
                  | true => have := (hkeff e o' h4 h5).1 h9; omega
                have h9 : ord (masks ops.toList []) e i = false := by
                  cases h10 : ord (masks ops.toList []) e i with
                  | false => rfl
                  | true => have := ahead h10; rw [this] at hnot; cases hnot
                have h11 : ord (masks ops.toList []) i e = false := by
                  cases h10 : ord (masks ops.toList []) i e with
                  | false => rfl
                  | true => have := ord_lt r.edges (by rw [Array.length_toList]; exact hen) h10; omega
                have h12 := r.reads i e o o' ho h4 hr h5 hg h11 h9
                rw [if_neg (by omega)] at h12
                rw [← r.quiets (a := k) e (by omega) (by omega) (fun j o'' h13 h14 h15 => h8 j o'' h13 h14 h15)]
                exact h12
            · have hno : ∀ (j : Nat) (o' : Oper), ((i ≤ j ∧ j < k) ∨ (k ≤ j ∧ j < i)) → ops.toList[j]? = some o' → isEff C f o' = false := fun j o' hj ho' => by
                cases h12 : isEff C f o' with
                | false => rfl
                | true => exact absurd ⟨j, o', ho', h12, hj⟩ hex
              rcases Nat.lt_or_ge i k with hik | hik
              · rw [r.quiets (a := i) k (by omega) hk (fun j o' h1 h2 h3 => hno j o' (.inl ⟨h1, h2⟩) h3)]; exact h3
              · rw [← r.quiets (a := k) i (by omega) (by omega) (fun j o' h1 h2 h3 => hno j o' (.inr ⟨h1, h2⟩) h3)]; exact h3
  obtain ⟨hc', hs, hheap⟩ := hval
  refine ⟨hc', hs, ⟨by simp [I.size], ?_, hheap, ?_⟩⟩
  · -- the slots
    apply List.ext_getElem?
    intro t
    rw [putAll_get]
    unfold doneL
    rw [List.filter_filter]
    have hnew : ∀ j, j < ops.size → (listed.setIfInBounds i true).getD j false = (listed.getD j false || j == i) := by
      intro j hj
      by_cases hji : j = i
      · subst hji
        simp [Array.getD_eq_getD_getElem?, I.size, hi]
      · rw [getD_set_ne false (fun e => hji e.symm)]
        have hb : (j == i) = false := beq_eq_false_iff_ne.2 hji
        rw [hb, Bool.or_false]
    by_cases hd : o.dst = some t
    · have hwi : writes ops.toList t i = true := by unfold writes; rw [ho]; simp [hd]
      rw [last_upto hi (p := fun a => writes ops.toList t a && (listed.setIfInBounds i true).getD a false) (by rw [hwi, hnew i hi]; simp) (fun j hj hjn => ?_)]
      · simp only [putT, hd, List.getElem?_set]
        rw [I.slots, putAll_length]
        simp
      · rw [hnew j hjn]
        cases hw : writes ops.toList t j with
        | false => simp
        | true =>
          obtain ⟨o', ho', hd'⟩ := writes_get hw
          rcases r.pairs i j o o' hj ho ho' with h1 | ⟨-, h1⟩
          · rw [behind hjn h1]; simp; omega
          · exact absurd hd' (apart_left h1 hd).2
    · have hwi : writes ops.toList t i = false := by unfold writes; rw [ho]; simpa using hd
      have heq : (List.range ops.size).filter (fun a => writes ops.toList t a && (listed.setIfInBounds i true).getD a false) = (List.range ops.size).filter (fun a => writes ops.toList t a && listed.getD a false) := by
        refine List.filter_congr fun j hj => ?_
        rw [hnew j (List.mem_range.1 hj)]
        by_cases hji : j = i
        · subst hji; simp [hwi]
        · have hb : (j == i) = false := beq_eq_false_iff_ne.2 hji
          rw [hb, Bool.or_false]
      rw [heq]
      have := putAll_get ops.toList val t (doneL ops.size listed) tm
      unfold doneL at this
      rw [List.filter_filter] at this
      rw [← this]
      have h1 : (putT tmc o.dst (val i))[t]? = tmc[t]? := by
        cases hod : o.dst with
        | none => rfl
        | some d =>
          simp only [putT, List.getElem?_set]
          rw [if_neg (fun e => hd (by rw [hod, e]))]
      rw [h1, I.slots]
      rfl
  · intro j o' hj ho' e he hb
    by_cases hji : j = i
    · subst hji
      rw [ho] at ho'
      cases ho'
      exact getD_set_true (hready e he hb)
    · rw [getD_set_ne false (fun e => hji e.symm)] at hj
      exact getD_set_true (I.closed j o' hj ho' e he hb)
end
end
end Go.Ax

namespace Go.Ax
open Go Go.RowKit
section
variable {P : Program} {T : Tab} {B : Nat} {w0 : World}
variable {C : Cfg} {call : CallF} {mode : Bool} {f : FuncId}
theorem getElem?_zipIdx {l : List Oper} {i : Nat} {o : Oper} (h : l[i]? = some o) : (o, i) ∈ l.zipIdx := by
  rw [List.mem_zipIdx_iff_getElem?]
  simpa using h
theorem exRead_heapless {ρ : Operand → AV} {o : Oper} (hz : heapless C o = true) (h h' : Heap) : exRead C.T ρ o h = exRead C.T ρ o h' := by
  unfold heapless at hz
  unfold exRead
  split at hz
  · rename_i s t x ho
    rw [ho]
    simp only
    split at hz
    · rename_i k1 k2 h1 h2
      rw [h1, h2]
      cases ρ x <;> rfl
    · cases hz
  · cases hz
theorem ran_of {ops : Array Oper} {tm tm' : List AV} {h h' : Heap} (hr : exRegion C call mode f ops true tm h = some (tm', h')) :
    ∃ stT stH val, Ran C call mode f ops tm h stT stH val ∧ stT ops.size = tm' ∧ stH ops.size = h' := by
  unfold exRegion at hr
  simp only [if_true] at hr
  by_cases hd : drawOk C f ops.toList (masks ops.toList []) ops = true
  case neg => rw [if_neg hd] at hr; cases hr
  rw [if_pos hd] at hr
  cases ht : traceOps C call mode f ops ops.toList tm h with
  | none => simp [ht] at hr
  | some x =>
    obtain ⟨tr, tm1, h1⟩ := x
    simp only [ht] at hr
    by_cases hrd : readsOk C ops ops.toList tr h1 (pairsOf C f ops.toList (masks ops.toList [])) = true
    case neg => rw [if_neg hrd] at hr; cases hr
    rw [if_pos hrd] at hr
    simp only [Option.some.injEq, Prod.mk.injEq] at hr
    obtain ⟨rfl, rfl⟩ := hr
    obtain ⟨hlen, hsp⟩ := trace_spec ht
    have hn : tr.length = ops.size := by rw [hlen, Array.length_toList]
    have hat : ∀ i, i < ops.size → ∃ x, tr[i]? = some x := fun i hi => ⟨tr[i], List.getElem?_eq_getElem (by omega)⟩
    have hend : ∀ i, ops.size ≤ i → tr[i]? = none := fun i hi => List.getElem?_eq_none (by omega)
    -- the states
    refine ⟨fun i => match tr[i]? with | some (t, _, _) => t | none => tm1, fun i => match tr[i]? with | some (_, hp, _) => hp | none => h1,
      fun i => match tr[i]? with | some (_, _, v) => v | none => .undef, ?_, by simp [hend ops.size (Nat.le_refl _)], by simp [hend ops.size (Nat.le_refl _)]⟩
    have hstep : ∀ (i : Nat) (o : Oper), ops.toList[i]? = some o → ∃ t hp v h2, tr[i]? = some (t, hp, v) ∧ stepA C call mode f ops o t hp = some (v, h2) ∧
        (match tr[i + 1]? with | some (t, _, _) => t | none => tm1) = putT t o.dst v ∧ (match tr[i + 1]? with | some (_, hp, _) => hp | none => h1) = h2 := by
      intro i o ho
      have hi : i < ops.toList.length := (List.getElem?_eq_some_iff.1 ho).1
      obtain ⟨o', t, hp, v, h2, e1, e2, e3, -, e4, e5⟩ := hsp i hi
      rw [ho] at e1
      cases e1
      refine ⟨t, hp, v, h2, e2, e3, ?_⟩
      rw [Array.length_toList] at hi
      by_cases hl : i + 1 < ops.size
      · obtain ⟨⟨t2, hp2, v2⟩, hx⟩ := hat (i + 1) hl
        rw [hx]
        exact e4 _ _ _ hx
      · rw [hend (i + 1) (by omega)]
        exact e5 (by rw [Array.length_toList]; omega)
    refine ⟨fun i o ho => ?_, fun i hi => ?_, ?_, fun j o ho e he hb => ?_, fun i j o' o hij ho' ho => ?_, fun i e o o' ho ho' hr he hg h3 h4 => ?_⟩
    · obtain ⟨t, hp, v, h2, e1, e2, e3, e4⟩ := hstep i o ho
      simp only [e1, e4]
      exact e2
    · induction i with
      | zero =>
        simp only [List.range_zero, putAll, List.foldl_nil]
        rcases Nat.eq_zero_or_pos ops.size with h0 | h0
        · rw [hend 0 (by omega)]
          have : ops.toList = [] := List.eq_nil_of_length_eq_zero (by rw [Array.length_toList]; exact h0)
          rw [this] at ht
          simp only [traceOps, Option.some.injEq, Prod.mk.injEq] at ht
          exact ht.2.1.symm
        · obtain ⟨o', t, hp, v, h2, e1, e2, e3, e4, -, -⟩ := hsp 0 (by rw [Array.length_toList]; exact h0)
          rw [e2]
          exact (e4 rfl).1
      | succ i ih =>
        have ho : ops.toList[i]? = some ops.toList[i] := List.getElem?_eq_getElem (by rw [Array.length_toList]; omega)
        obtain ⟨t, hp, v, h2, e1, e2, e3, e4⟩ := hstep i _ ho
        have ih' := ih (by omega)
        simp only [e1] at ih'
        rw [e3, List.range_succ]
        unfold putAll at ih' ⊢
        rw [List.foldl_append, ← ih']
        simp only [List.foldl_cons, List.foldl_nil, ho, e1]
    · rcases Nat.eq_zero_or_pos ops.size with h0 | h0
      · rw [hend 0 (by omega)]
        have : ops.toList = [] := List.eq_nil_of_length_eq_zero (by rw [Array.length_toList]; exact h0)
        rw [this] at ht
        simp only [traceOps, Option.some.injEq, Prod.mk.injEq] at ht
        exact ht.2.2.symm
      · obtain ⟨o', t, hp, v, h2, e1, e2, e3, e4, -, -⟩ := hsp 0 (by rw [Array.length_toList]; exact h0)
        rw [e2]
        exact (e4 rfl).2
    · unfold drawOk at hd
      have := List.all_eq_true.1 hd _ (getElem?_zipIdx ho)
      rw [Bool.and_eq_true] at this
      have h5 := List.all_eq_true.1 this.1 e he
      simp only [hb, Bool.not_true, Bool.false_or, decide_eq_true_eq] at h5
      exact h5
    · unfold drawOk at hd
      have := List.all_eq_true.1 hd _ (getElem?_zipIdx ho)
      rw [Bool.and_eq_true] at this
      have h5 := List.all_eq_true.1 this.2 _ (getElem?_zipIdx ho')
      simp only [hij, decide_true, Bool.not_true, Bool.false_or, Bool.or_eq_true, Bool.and_eq_true, Bool.not_eq_true', Bool.and_eq_false_iff] at h5
      rcases h5 with h5 | ⟨h5, h6⟩
      · exact .inl h5
      · refine .inr ⟨?_, h6⟩
        rintro ⟨h7, h8⟩
        rcases h5 with h5 | h5
        · rw [h7] at h5; cases h5
        · rw [h8] at h5; cases h5
    · obtain ⟨t, hp, v, h2, e1, -, -, -⟩ := hstep i o ho
      simp only [e1] at hg
      simp only [e1]
      by_cases hz : heapless C o = true
      case pos =>
        obtain ⟨t', hp', v', h2', f1, f2, -, -⟩ := hstep i o ho
        rw [e1] at f1
        cases f1
        unfold stepA at f2
        rw [hg] at f2
        simp only at f2
        obtain ⟨hf1, hf2⟩ := kind_read hr
        unfold exOp at f2
        rw [hf1] at f2
        unfold exBase at f2
        rw [hf2] at f2
        simp only at f2
        cases hex : exRead C.T (evalA t) o hp with
        | none => simp [hex] at f2
        | some v2 =>
          simp only [hex, Bool.false_eq_true, if_false, Option.some.injEq, Prod.mk.injEq] at f2
          rw [← f2.1, ← hex]
          exact exRead_heapless hz _ _
      have hil : i < ops.size := by have := (List.getElem?_eq_some_iff.1 ho).1; rwa [Array.length_toList] at this
      have hel : e < ops.size := by have := (List.getElem?_eq_some_iff.1 ho').1; rwa [Array.length_toList] at this
      have hmem : (i, e) ∈ pairsOf C f ops.toList (masks ops.toList []) := by
        unfold pairsOf
        refine List.mem_flatMap.2 ⟨i, List.mem_range.2 (by rw [Array.length_toList]; exact hil), List.mem_filterMap.2 ⟨e, List.mem_range.2 (by rw [Array.length_toList]; exact hel), ?_⟩⟩
        rw [ho, ho']
        simp [hr, he, h3, h4, hz]
      have hreads : ∀ (ps : List (Nat × Nat)), readsOk C ops ops.toList tr h1 ps = true → ∀ x ∈ ps, readOk C ops ops.toList tr h1 x = true := by
        intro ps
        induction ps with
        | nil => intro _ x hx; cases hx
        | cons y ps ih =>
          intro hps x hx
          simp only [readsOk, Bool.and_eq_true] at hps
          rcases List.mem_cons.1 hx with rfl | hx
          · exact hps.1
          · exact ih hps.2 x hx
      have h5 := hreads _ hrd _ hmem
      unfold readOk at h5
      simp only [ho, e1, hg, offA, Bool.false_or] at h5
      by_cases hie : i < e
      · simp only [hie, if_true] at h5 ⊢
        by_cases hl : e + 1 < ops.size
        · obtain ⟨⟨t2, hp2, v2⟩, hx⟩ := hat (e + 1) hl
          simp only [hx] at h5 ⊢
          unfold rdSame at h5
          cases hex : exRead C.T (evalA t) o hp2 with
          | none => simp [hex] at h5
          | some v' => simp only [hex] at h5; rw [AV.same_eq h5]
        · simp only [hend (e + 1) (by omega)] at h5 ⊢
          unfold rdSame at h5
          cases hex : exRead C.T (evalA t) o h1 with
          | none => simp [hex] at h5
          | some v' => simp only [hex] at h5; rw [AV.same_eq h5]
      · simp only [hie, if_false] at h5 ⊢
        obtain ⟨⟨t2, hp2, v2⟩, hx⟩ := hat e hel
        simp only [hx, Option.map_some] at h5 ⊢
        unfold rdSame at h5
        cases hex : exRead C.T (evalA t) o hp2 with
        | none => simp [hex] at h5
        | some v' => simp only [hex] at h5; rw [AV.same_eq h5]
theorem getD_replicate (n j : Nat) : (Array.replicate n false).getD j false = false := by
  rw [Array.getD_eq_getD_getElem?, Array.getElem?_replicate]
  split <;> rfl
variable (F : Fits P T) (hC : C.T = T) (hcall : CallOk P T call)
include F hC hcall
theorem wpAny_sound' {ops : Array Oper} {Q : Exit → Act → World → Prop} {tm : List AV} {h : Heap} {stT : Nat → List AV} {stH : Nat → Heap} {val : Nat → AV}
    (r : Ran C call mode f ops tm h stT stH val) : ∀ (fuel : Nat) (listed : Array Bool) (J : Inj) (a : Act) (w : World) (tmc : List AV) (hc : Heap),
    ((List.range ops.size).filter fun j => !listed.getD j false).length ≤ fuel → Inv C f ops tm stH val listed tmc hc → Rel T B w0 J hc w → VRL T J tmc a.tmps.toList →
    (∀ J' a' w', J.Le J' → VRL T J' (stT ops.size) a'.tmps.toList → a'.defers = a.defers → Rel T B w0 J' (stH ops.size) w' → Q .normal a' w') → wpAny P .any ops Q fuel listed a w := by
  -- where nothing is ready all is done
  have hfin : ∀ {listed : Array Bool} {J : Inj} {a : Act} {w : World} {tmc hc}, Region.ready .any ops listed = [] → Inv C f ops tm stH val listed tmc hc → Rel T B w0 J hc w → VRL T J tmc a.tmps.toList →
      (∀ J' a' w', J.Le J' → VRL T J' (stT ops.size) a'.tmps.toList → a'.defers = a.defers → Rel T B w0 J' (stH ops.size) w' → Q .normal a' w') → Q .normal a w := by
    intro listed J a w tmc hc hready I R hv hQ
    have hall : ∀ j, j < ops.size → listed.getD j false = true := by
      intro j
      induction j using Nat.strongRecOn with
      | _ j ih =>
        intro hj
        cases hl : listed.getD j false with
        | true => rfl
        | false =>
          exfalso
          have hmem : j ∈ Region.ready .any ops listed := by
            unfold Region.ready
            rw [List.mem_filter]
            refine ⟨List.mem_range.2 hj, ?_⟩
            have hl' : listed.getD j true = false := by
              rw [Array.getD_eq_getD_getElem?] at hl ⊢
              rw [Array.getElem?_eq_getElem (by rw [I.size]; exact hj)] at hl ⊢
              exact hl
            have ho : ops[j]? = some ops[j] := Array.getElem?_eq_getElem hj
            simp only [hl', Bool.not_false, Bool.true_and, ho, Option.map_some, Option.getD_some]
            rw [Array.all_eq_true_iff_forall_mem]
            intro e he
            cases hb : Region.binds .any e with
            | false => rfl
            | true =>
              have hlt := r.edges j ops[j] (by rw [Array.getElem?_toList]; exact ho) e (by simpa using he) hb
              simp only [Bool.not_true, Bool.false_or]
              exact ih e.on hlt (by omega)
          rw [hready] at hmem
          cases hmem
    have htm : tmc = stT ops.size := by
      rw [I.slots, r.slots ops.size (Nat.le_refl _)]
      congr 1
      unfold doneL
      rw [List.filter_eq_self]
      intro j hj
      exact hall j (List.mem_range.1 hj)
    obtain ⟨k, hk, hhc, hkeff⟩ := I.heap
    have hh : hc = stH ops.size := by
      rw [hhc, r.quiets (a := k) ops.size hk (Nat.le_refl _)]
      intro j o hj1 hj2 ho
      cases he : isEff C f o with
      | false => rfl
      | true => have := (hkeff j o ho he).1 (hall j hj2); omega
    exact hQ J a w (Inj.Le.refl _) (by rw [← htm]; exact hv) rfl (by rw [← hh]; exact R)
  intro fuel
  induction fuel with
  | zero =>
    intro listed J a w tmc hc hcount I R hv hQ
    have hnone : Region.ready .any ops listed = [] := by
      rw [List.eq_nil_iff_forall_not_mem]
      intro j hj
      have h1 := (List.mem_filter.1 hj)
      have h2 : ((List.range ops.size).filter fun j => !listed.getD j false) = [] := List.eq_nil_of_length_eq_zero (by omega)
      rw [List.filter_eq_nil_iff] at h2
      have h3 := h2 j h1.1
      have hjn := List.mem_range.1 h1.1
      have h4 := h1.2
      rw [Bool.and_eq_true] at h4
      have h5 := h4.1
      rw [Array.getD_eq_getD_getElem?, Array.getElem?_eq_getElem (by rw [I.size]; exact hjn)] at h5 h3
      simp at h5 h3
      rw [h3] at h5
      cases h5
    exact ⟨hnone, hfin hnone I R hv hQ⟩
  | succ fuel ih =>
    intro listed J a w tmc hc hcount I R hv hQ
    refine ⟨fun hready => hfin hready I R hv hQ, fun i hi => ?_⟩
    have h1 := List.mem_filter.1 hi
    have hin := List.mem_range.1 h1.1
    have ho : ops[i]? = some ops[i] := Array.getElem?_eq_getElem hin
    have ho' : ops.toList[i]? = some ops[i] := by rw [Array.getElem?_toList]; exact ho
    have h2 := h1.2
    simp only [ho, Option.map_some, Option.getD_some, Bool.and_eq_true] at h2
    have hn : listed.getD i false = false := by
      have h5 := h2.1
      rw [Array.getD_eq_getD_getElem?, Array.getElem?_eq_getElem (by rw [I.size]; exact hin)] at h5 ⊢
      simpa using h5
    have hready : ∀ e ∈ (ops[i]).after.toList, Region.binds .any e = true → listed.getD e.on false = true := by
      intro e he hb
      have := (Array.all_eq_true_iff_forall_mem.1 h2.2) e (by simpa using he)
      simpa [hb] using this
    obtain ⟨hc', hs, I'⟩ := I.step r ho' hn hready
    refine step_wp F hC hcall ho hs R hv _ fun J' x w' hle hvx R' => ?_
    refine ih (listed.setIfInBounds i true) J' _ w' _ hc' ?_ I' R' (put_vrl (hv.le hle) hvx _) fun J'' a' w'' hle' hv'' hd R'' => hQ J'' a' w'' (hle.trans hle') hv'' (by rw [hd, put_defers]) R''
    -- one fewer is left
    have hlt : ((List.range ops.size).filter fun j => !(listed.setIfInBounds i true).getD j false).length < ((List.range ops.size).filter fun j => !listed.getD j false).length := by
      have hsub : ((List.range ops.size).filter fun j => !(listed.setIfInBounds i true).getD j false) = ((List.range ops.size).filter fun j => !listed.getD j false).filter fun j => j != i := by
        rw [List.filter_filter]
        refine List.filter_congr fun j hj => ?_
        by_cases hji : j = i
        · subst hji
          have : (listed.setIfInBounds j true).getD j false = true := by simp [Array.getD_eq_getD_getElem?, I.size, hin]
          rw [this]; simp
        · rw [getD_set_ne false (fun e => hji e.symm)]
          have hb : (j != i) = true := by simpa using hji
          rw [hb, Bool.true_and]
      rw [hsub]
      refine List.length_filter_lt_length_iff_exists.2 ⟨i, List.mem_filter.2 ⟨h1.1, by rw [hn]; rfl⟩, by simp⟩
    omega
theorem exRegion_sound (hm : P.follows .mixedOrders = true) {ops : Array Oper} {draw : Bool} {id : Nat} {Q : Exit → Act → World → Prop} {tm tm' : List AV} {h h' : Heap} {J : Inj} {a : Act} {w : World}
    (hr : exRegion C call mode f ops draw tm h = some (tm', h')) (R : Rel T B w0 J h w) (hv : VRL T J tm a.tmps.toList)
    (hQ : ∀ J' a' w', J.Le J' → VRL T J' tm' a'.tmps.toList → a'.defers = a.defers → Rel T B w0 J' h' w' → Q .normal a' w') : (Code.region id ops draw).wp P Q a w := by
  cases draw with
  | false =>
    unfold exRegion at hr
    simp only [Bool.false_eq_true, if_false] at hr
    refine wp_region ?_
    rw [List.range_eq_range', ← Array.length_toList]
    exact runOps_sound F hC hcall ops.toList 0 (fun j => by simp) hr R hv hQ
  | true =>
    obtain ⟨stT, stH, val, r, rfl, rfl⟩ := ran_of hr
    refine wp_region_any hm ?_
    refine wpAny_sound' F hC hcall r ops.size _ J a _ tm h ?_ ?_ R.drew hv hQ
    · exact Nat.le_trans (List.length_filter_le _ _) (by simp)
    · refine ⟨by simp, ?_, ⟨0, Nat.zero_le _, r.start.symm, fun i o ho he => ?_⟩, fun j o hj ho => ?_⟩
      · have : doneL ops.size (Array.replicate ops.size false) = [] := by
          unfold doneL
          rw [List.filter_eq_nil_iff]
          intro j hj
          rw [getD_replicate]
          simp
        rw [this]
        rfl
      · rw [getD_replicate]; simp
      · rw [getD_replicate] at hj; cases hj
end
section
variable {P : Program} {T : Tab} {B : Nat} {w0 : World}
def Ex.out : Ex → Exit
  | .normal => .normal
  | .exit id => .exit id
  | .ret => .ret
def Post (T : Tab) (B : Nat) (w0 : World) (J : Inj) (a : Act) (ex : Ex) (tm' : List AV) (h' : Heap) (e : Exit) (a' : Act) (w' : World) : Prop :=
  ∃ J', J.Le J' ∧ e = ex.out ∧ VRL T J' tm' a'.tmps.toList ∧ a'.defers = a.defers ∧ Rel T B w0 J' h' w'
theorem Post.after {J J1 : Inj} {a a1 : Act} {ex : Ex} {tm' h' e a' w'} (hle : J.Le J1) (hd : a1.defers = a.defers) (h : Post T B w0 J1 a1 ex tm' h' e a' w') : Post T B w0 J a ex tm' h' e a' w' := by
  obtain ⟨J', h1, h2, h3, h4, h5⟩ := h
  exact ⟨J', hle.trans h1, h2, h3, h4.trans hd, h5⟩
def CodeOk (P : Program) (T : Tab) (B : Nat) (w0 : World) (run : List AV → Heap → Option (Ex × List AV × Heap)) (c : Code) : Prop :=
  ∀ tm h ex tm' h', run tm h = some (ex, tm', h') → ∀ (J : Inj) (a : Act) (w : World), Rel T B w0 J h w → VRL T J tm a.tmps.toList → c.wp P (Post T B w0 J a ex tm' h') a w
theorem loopA_sound {body : List AV → Heap → Option (Ex × List AV × Heap)} {c : Code} (hb : CodeOk P T B w0 body c) : ∀ (n : Nat), CodeOk P T B w0 (loopA body n) (.loop c) := by
  intro n tm h ex tm' h' hl J a w R hv
  refine wp_loop_rounds n ?_
  -- from any state on
  have key : ∀ (n : Nat) {tm h} {J1 : Inj} {a1 : Act} {w1 : World}, loopA body n tm h = some (ex, tm', h') → J.Le J1 → a1.defers = a.defers → Rel T B w0 J1 h w1 → VRL T J1 tm a1.tmps.toList →
      Code.rounds P c (Post T B w0 J a ex tm' h') n a1 w1 := by
    intro n
    induction n with
    | zero => intro tm h J1 a1 w1 hl; simp [loopA] at hl
    | succ n ih =>
      intro tm h J1 a1 w1 hl hle hd R hv
      rw [rounds_succ]
      simp only [loopA] at hl
      cases hr : body tm h with
      | none => simp [hr] at hl
      | some x =>
        obtain ⟨ex1, tm1, h1⟩ := x
        refine wp_mono (hb _ _ _ _ _ hr _ _ _ R hv) fun e a' w' hp => ?_
        obtain ⟨J', h2, h3, h4, h5, h6⟩ := hp
        subst h3
        cases ex1 with
        | normal =>
          simp only [hr] at hl
          exact ih hl (hle.trans h2) (h5.trans hd) h6 h4
        | exit id =>
          simp only [hr, Option.some.injEq, Prod.mk.injEq] at hl
          obtain ⟨rfl, rfl, rfl⟩ := hl
          exact ⟨J', hle.trans h2, rfl, h4, h5.trans hd, h6⟩
        | ret =>
          simp only [hr, Option.some.injEq, Prod.mk.injEq] at hl
          obtain ⟨rfl, rfl, rfl⟩ := hl
          exact ⟨J', hle.trans h2, rfl, h4, h5.trans hd, h6⟩
  exact key n hl (Inj.Le.refl _) rfl R hv
theorem clrFrom_vrl {J : Inj} (l : List Nat) : ∀ (i : Nat) {tm : List AV} {xs : List Value}, VRL T J tm xs → VRL T J (clrFrom l i tm) xs
  | _, [], _, h => by cases h; exact .nil
  | i, v :: tm, _, h => by
    cases h with
    | cons a b =>
      refine .cons ?_ (clrFrom_vrl l (i + 1) b)
      split
      · exact a
      · exact .undef
theorem clr_vrl {J : Inj} (l : Option (List Nat)) {tm : List AV} {xs : List Value} (h : VRL T J tm xs) : VRL T J (clr l tm) xs := by
  cases l with
  | none => exact h
  | some l => exact clrFrom_vrl l 0 h
theorem exCode_sound (F : Fits P T) (hm : P.follows .mixedOrders = true) {C : Cfg} (hC : C.T = T) {call : CallF} (hcall : CallOk P T call) {mode : Bool} {f : FuncId} (n : Nat) :
    ∀ (c : Code), CodeOk P T B w0 (exCode C call mode f n c) c
  | .skip => fun tm h ex tm' h' hr J a w R hv => by
    simp only [exCode, Option.some.injEq, Prod.mk.injEq] at hr
    obtain ⟨rfl, rfl, rfl⟩ := hr
    exact wp_skip ⟨J, Inj.Le.refl _, rfl, hv, rfl, R⟩
  | .label _ => fun tm h ex tm' h' hr J a w R hv => by
    simp only [exCode, Option.some.injEq, Prod.mk.injEq] at hr
    obtain ⟨rfl, rfl, rfl⟩ := hr
    exact wp_label ⟨J, Inj.Le.refl _, rfl, hv, rfl, R⟩
  | .ret => fun tm h ex tm' h' hr J a w R hv => by
    simp only [exCode, Option.some.injEq, Prod.mk.injEq] at hr
    obtain ⟨rfl, rfl, rfl⟩ := hr
    exact wp_ret ⟨J, Inj.Le.refl _, rfl, hv, rfl, R⟩
  | .exit id => fun tm h ex tm' h' hr J a w R hv => by
    simp only [exCode, Option.some.injEq, Prod.mk.injEq] at hr
    obtain ⟨rfl, rfl, rfl⟩ := hr
    exact wp_exit ⟨J, Inj.Le.refl _, rfl, hv, rfl, R⟩
  | .region id ops draw => fun tm h ex tm' h' hr J a w R hv => by
    simp only [exCode] at hr
    cases hx : exRegion C call mode f ops draw tm h with
    | none => simp [hx] at hr
    | some x =>
      obtain ⟨tm1, h1⟩ := x
      simp only [hx, Option.some.injEq, Prod.mk.injEq] at hr
      obtain ⟨rfl, rfl, rfl⟩ := hr
      exact exRegion_sound F hC hcall hm hx R hv fun J' a' w' h2 h3 h4 h5 => ⟨J', h2, rfl, clr_vrl _ h3, h4, h5⟩
  | .seq x y => fun tm h ex tm' h' hr J a w R hv => by
    simp only [exCode] at hr
    cases hx : exCode C call mode f n x tm h with
    | none => simp [hx] at hr
    | some r =>
      obtain ⟨ex1, tm1, h1⟩ := r
      refine wp_seq (wp_mono (exCode_sound F hm hC hcall n x _ _ _ _ _ hx _ _ _ R hv) fun e a' w' hp => ?_)
      obtain ⟨J', h2, h3, h4, h5, h6⟩ := hp
      subst h3
      cases ex1 with
      | normal =>
        simp only [hx] at hr
        exact wp_mono (exCode_sound F hm hC hcall n y _ _ _ _ _ hr _ _ _ h6 h4) fun e a'' w'' hp => hp.after h2 h5
      | exit id =>
        simp only [hx, Option.some.injEq, Prod.mk.injEq] at hr
        obtain ⟨rfl, rfl, rfl⟩ := hr
        exact ⟨J', h2, rfl, h4, h5, h6⟩
      | ret =>
        simp only [hx, Option.some.injEq, Prod.mk.injEq] at hr
        obtain ⟨rfl, rfl, rfl⟩ := hr
        exact ⟨J', h2, rfl, h4, h5, h6⟩
  | .cond c x y => fun tm h ex tm' h' hr J a w R hv => by
    simp only [exCode] at hr
    have hc := evalA_VR hv c
    split at hr
    · rename_i hcc
      rw [hcc] at hc
      exact wp_cond_true hc.bool_inv (exCode_sound F hm hC hcall n x _ _ _ _ _ hr _ _ _ R hv)
    · rename_i hcc
      rw [hcc] at hc
      exact wp_cond_false hc.bool_inv (exCode_sound F hm hC hcall n y _ _ _ _ _ hr _ _ _ R hv)
    · cases hr
  | .block id c => fun tm h ex tm' h' hr J a w R hv => by
    simp only [exCode] at hr
    cases hx : exCode C call mode f n c tm h with
    | none => simp [hx] at hr
    | some r =>
      obtain ⟨ex1, tm1, h1⟩ := r
      refine wp_block (wp_mono (exCode_sound F hm hC hcall n c _ _ _ _ _ hx _ _ _ R hv) fun e a' w' hp => ?_)
      obtain ⟨J', h2, h3, h4, h5, h6⟩ := hp
      subst h3
      cases ex1 with
      | normal =>
        simp only [hx, Option.some.injEq, Prod.mk.injEq] at hr
        obtain ⟨rfl, rfl, rfl⟩ := hr
        exact ⟨J', h2, rfl, h4, h5, h6⟩
      | exit id' =>
        simp only [hx] at hr
        by_cases hid : id' = id
        · simp only [hid, if_true, Option.some.injEq, Prod.mk.injEq] at hr
          obtain ⟨rfl, rfl, rfl⟩ := hr
          simp only [Ex.out, Exit.inBlock, hid, if_true]
          exact ⟨J', h2, rfl, h4, h5, h6⟩
        · simp only [hid, if_false, Option.some.injEq, Prod.mk.injEq] at hr
          obtain ⟨rfl, rfl, rfl⟩ := hr
          simp only [Ex.out, Exit.inBlock, hid, if_false]
          exact ⟨J', h2, rfl, h4, h5, h6⟩
      | ret =>
        simp only [hx, Option.some.injEq, Prod.mk.injEq] at hr
        obtain ⟨rfl, rfl, rfl⟩ := hr
        exact ⟨J', h2, rfl, h4, h5, h6⟩
  | .loop c => fun tm h ex tm' h' hr J a w R hv => by
    simp only [exCode] at hr
    exact loopA_sound (exCode_sound F hm hC hcall n c) n _ _ _ _ _ hr _ _ _ R hv
  | .rangeFunc .. => fun _ _ _ _ _ hr => by simp [exCode] at hr
  | .scope _ => fun _ _ _ _ _ hr => by simp [exCode] at hr
  | .goto _ => fun _ _ _ _ _ hr => by simp [exCode] at hr
  | .refuse _ => fun _ _ _ _ _ hr => by simp [exCode] at hr
structure CntOk (P : Program) (C : Cfg) : Prop where
  fn : ∀ g, C.cnt g = true → ∃ fn : Func, P.funcs[g]? = some fn ∧ (fn.name == "runtime.NumGoroutine") = false ∧ fn.body = none ∧ Extern.findNext fn = none ∧ Extern.find fn = some Extern.BytealgCount.count
theorem count_sound {J : Inj} {w : World} {h : Heap} (F : Fits P T) (R : Rel T B w0 J h w) {args : List AV} {xs : List Value} {v : AV} {h' : Heap} (hv : aCount args h = some (v, h')) (hx : VRL T J args xs) :
    ∃ r, (Extern.BytealgCount.count xs.toArray).run P w = .ok r w ∧ VR T J v r ∧ h' = h := by
  unfold aCount at hv
  split at hv
  case h_2 => cases hv
  rename_i x n
  cases hx with
  | cons hx0 hx1 =>
    cases hx1 with
    | cons hx1 hx2 =>
      cases hx2
      obtain rfl := hx1.int_inv
      cases hsl : (slElems h x).bind bytesOf with
      | none => simp [hsl] at hv
      | some bs =>
        simp only [hsl, Option.some.injEq, Prod.mk.injEq] at hv
        obtain ⟨rfl, rfl⟩ := hv
        simp only [Option.bind_eq_some_iff] at hsl
        obtain ⟨l, hl, hb⟩ := hsl
        refine ⟨_, ?_, .cell (.int _ _), rfl⟩
        rcases slElems_sound F R hl hx0 with ⟨rfl, ad, rfl⟩ | ⟨e', b, o, cs, cap, h1, h2, rfl, -⟩
        · simp only [bytesOf, Option.some.injEq] at hb
          subst hb
          cases ad <;> rfl
        · obtain ⟨ns, rfl, rfl⟩ := bytesOf_fl F hb h1
          have hlen : ns.length = l.length := by
            have := bytesOf_len hb
            simpa using this
          have := Lib.run_countAt (P := P) w ⟨b, o, none⟩ l.length cap ns hlen (fun i hi => by
            rw [Addr.add_mid]
            refine h2 i _ ?_
            rw [List.getElem?_map, List.getD_eq_getElem?_getD, List.getElem?_eq_getElem (by omega)]
            rfl) n
          exact this
structure FunsOk (P : Program) (E : Funs) : Prop where
  fn : ∀ g x, E g = some x → ∃ fn : Func, P.funcs[g]? = some fn ∧ fn.body = some x.body ∧ fn.ntmps = x.ntmps ∧ fn.results = (x.results.map ResultVar.tmp).toArray ∧ (fn.name == "runtime.NumGoroutine") = false
theorem run_mapM_tmps (g : ResultVar → Sem Value) (tmps : Array Value) (hg : ∀ t, g (.tmp t) = pure (tmps.getD t undef)) (rs : List Nat) (w : World) :
    ((rs.map ResultVar.tmp).toArray.mapM g).run P w = .ok (rs.map fun t => tmps.getD t undef).toArray w := by
  rw [List.mapM_toArray, Sem.run_map]
  have : ∀ rs : List Nat, ((rs.map ResultVar.tmp).mapM g).run P w = .ok (rs.map fun t => tmps.getD t undef) w := by
    intro rs
    induction rs with
    | nil => rfl
    | cons t rs ih =>
      rw [List.map_cons, List.mapM_cons, hg, Sem.run_bind]
      simp only [Sem.run_pure, Result.andThen_ok, Sem.run_bind, ih]
      rfl
  rw [this rs]
  rfl
theorem run_results {fn : Func} {rs : List Nat} (h : fn.results = (rs.map ResultVar.tmp).toArray) {J : Inj} {tm : List AV} {tmps : Array Value} (hv : VRL T J tm tmps.toList) (w : World) :
    ∃ r, (Go.results fn tmps).run P w = .ok r w ∧ VR T J (results rs tm) r := by
  have hget : ∀ t, VR T J (tm.getD t .undef) (tmps.getD t undef) := fun t => by
    have := hv.get t
    simpa [List.getD_eq_getElem?_getD, Array.getD_eq_getD_getElem?] using this
  have hall : ∀ rs : List Nat, VRL T J (rs.map fun t => tm.getD t .undef) (rs.map fun t => tmps.getD t undef) := by
    intro rs
    induction rs with
    | nil => exact .nil
    | cons t rs ih => exact .cons (hget t) ih
  refine ⟨if hh : (rs.map fun t => tmps.getD t undef).toArray.size = 1 then (rs.map fun t => tmps.getD t undef).toArray[0] else .tuple (rs.map fun t => tmps.getD t undef).toArray, ?_, ?_⟩
  · unfold Go.results
    rw [Sem.run_bind, h, run_mapM_tmps _ tmps (fun _ => rfl) rs w]
    rfl
  · match rs with
    | [t] => simpa [results] using hget t
    | [] => simpa [results] using VR.tuple (hall [])
    | t :: u :: rs =>
      have := VR.tuple (hall (t :: u :: rs))
      simpa [results] using this
theorem exFn_sound (F : Fits P T) (hm : P.follows .mixedOrders = true) {C : Cfg} (hC : C.T = T) {E : Funs} (hE : FunsOk P E) (hX : CntOk P C) : ∀ (k : Nat), CallOk P T (exFn C E k)
  | 0 => fun mode g args h v h' hr => by simp [exFn] at hr
  | k + 1 => fun mode g args h v h' hr B w0 J w xs R hv => by
    simp only [exFn] at hr
    cases hg : E g with
    | none =>
      simp only [hg] at hr
      by_cases hz : C.cnt g = true
      case neg => rw [if_neg hz] at hr; cases hr
      rw [if_pos hz] at hr
      obtain ⟨fn, hfn, hname, hbody, hnext, hfind⟩ := hX.fn g hz
      obtain ⟨r, hr1, hr2, rfl⟩ := count_sound F R hr hv
      refine .inr ⟨w, r, J, ?_, Inj.Le.refl _, hr2, R⟩
      unfold callFunc
      simp only [Go.program, Sem.run_bind, Sem.run, Result.andThen_ok, hfn, hname, hbody, Option.isNone_none, Bool.false_eq_true, if_false, if_true, run_mark, hnext, hfind, hr1]
      rfl
    | some x =>
      simp only [hg] at hr
      obtain ⟨fn, hfn, hbody, hnt, hres, hname⟩ := hE.fn g x hg
      refine .inl ⟨?_, ?_⟩
      · unfold callFunc
        simp only [Go.program, Sem.run_bind, Sem.run, Result.andThen_ok, hfn, hname, hbody, Option.isNone_some, Bool.false_eq_true, if_false]
        rfl
      · refine calls_of_wp hfn hbody ?_
        have hlen := hv.length
        have hrep : ∀ n, VRL T J (List.replicate n .undef) (List.replicate n undef) := by
          intro n
          induction n with
          | zero => exact .nil
          | succ n ih => exact .cons .undef ih
        have hstart : VRL T J (args ++ List.replicate (x.ntmps - args.length) .undef) (xs.toArray ++ Array.replicate (fn.ntmps - xs.toArray.size) undef).toList := by
          have := hv.append (hrep (x.ntmps - args.length))
          rw [Array.toList_append, Array.toList_replicate]
          rw [hnt, List.size_toArray, ← hlen]
          exact this
        have fin : ∀ {ex tm1 h1}, exCode C (exFn C E k) mode g k x.body (args ++ List.replicate (x.ntmps - args.length) .undef) h = some (ex, tm1, h1) → (ex = .normal ∨ ex = .ret) → v = results x.results tm1 → h' = h1 →
            x.body.wp P (bodyPost P fn fun e w' => ∃ J' r, J.Le J' ∧ e = .returned r ∧ VR T J' v r ∧ Rel T B w0 J' h' w')
              { tmps := xs.toArray ++ Array.replicate (fn.ntmps - xs.toArray.size) undef, defers := [] } w := by
          intro ex tm1 h1 hx hex hvv hhh
          subst hvv hhh
          refine wp_mono (exCode_sound F hm hC (exFn_sound F hm hC hE hX k) k x.body _ _ _ _ _ hx _ _ _ R hstart) fun e a' w' hp => ?_
          obtain ⟨J', h2, h3, h4, h5, h6⟩ := hp
          obtain ⟨r, hr1, hr2⟩ := run_results (P := P) hres h4 w'
          rcases hex with rfl | rfl
          · subst h3
            exact ⟨h5, r, hr1, J', r, h2, rfl, hr2, h6⟩
          · subst h3
            exact ⟨h5, r, hr1, J', r, h2, rfl, hr2, h6⟩
        split at hr
        · rename_i tm1 h1 hx
          simp only [Option.some.injEq, Prod.mk.injEq] at hr
          exact fin hx (.inl rfl) hr.1.symm hr.2.symm
        · rename_i tm1 h1 hx
          simp only [Option.some.injEq, Prod.mk.injEq] at hr
          exact fin hx (.inr rfl) hr.1.symm hr.2.symm
        · cases hr
end
end Go.Ax

namespace Go.Ax
open Go
variable {β : Type}
def bnd {α : Type} (x : Option α) (k : α → Option β) : Option β :=
  match x with
  | some v => k v
  | none => none
def bnd2 (x : Option (AV × Heap)) (k : AV → Heap → Option β) : Option β :=
  match x with
  | some (v, h) => k v h
  | none => none
def onB (c : AV) (x y : Option β) : Option β :=
  match c with
  | .bool true => x
  | .bool false => y
  | _ => none
def onT (b : Bool) (x : Option β) : Option β :=
  match b with
  | true => x
  | false => none
def aPick (c a b : AV) : Option AV :=
  match c with
  | .bool true => some a
  | .bool false => some b
  | _ => none
def aBinC (T : Tab) (op : BinOp) (t : Ty) (x y : AV) (c : Bool) : Option AV :=
  match x, y with
  | .nili, .nili => if T.d t = .iface ∧ c = true then
      match op with
      | .eql => some (.bool true)
      | .neq => some (.bool false)
      | _ => none
    else none
  | a, b => aBin T op t a b
def aNil : AV → Option AV
  | .ref r p t => some (.ref r p t)
  | .vptr t v => some (.vptr t v)
  | _ => none
def aExtract (x : AV) (i : Nat) : Option AV :=
  match x with
  | .tuple vs => vs[i]?
  | _ => none
def aLit (T : Tab) (t : Ty) (len : Nat) (ps : List (Nat × AV)) : Option AV := (aElems T t len ps).map fun x => .vsl x.1 x.2 .exact
def aZeroSl (T : Tab) (t : Ty) (l c : AV) : Option AV := (aZeros T t l c).map fun x => .vsl x.1 (List.replicate x.2.1 x.2.2.2) .none
def aMin (xs : List AV) : Option AV :=
  match toVs xs with
  | some vs => ofPure (Builtin.min_ #[] 0 vs.toArray)
  | none => none
def aMax (xs : List AV) : Option AV :=
  match toVs xs with
  | some vs => ofPure (Builtin.max_ #[] 0 vs.toArray)
  | none => none
def aLoad (T : Tab) (t : Ty) (x : AV) (h : Heap) : Option AV :=
  match x with
  | .ref r p u => if u = T.und t then (h[r]?).bind (objGet · p) else none
  | .vptr u v => if u = T.und t then some v else none
  | _ => none
def aConv (T : Tab) (s t : Ty) (x : AV) (h : Heap) : Option AV :=
  match T.d s, T.d t, x with
  | .int _, .int k, .int _ n => some (.int k (k.wrap n))
  | .str, .str, .str b => some (.str b)
  | .str, .slice e, .str b => if T.d e = .int .u8 then some (.vsl (T.und e) (ofBytes b.data.toList) .none) else none
  | .slice e, .str, x => if T.d e = .int .u8 then
      match (slElems h x).bind bytesOf with
      | some l => some (.str ⟨l.toArray⟩)
      | none => none
    else none
  | .slice _, .slice e0, .msl r [] e off len => match h[r]? with
    | some (.row e' _) => if s = t ∧ T.d e0 = .int .u8 ∧ T.und e0 = e ∧ e' = e then some (.msl r [] e off len) else none
    | _ => none
  | _, _, _ => none
def aAlloc (T : Tab) (t : Ty) (h : Heap) : Option (AV × Heap) := (zero T t).map fun z => (.ref h.length [] (T.und t), h ++ [.var t z])
def aBoxv (T : Tab) (t : Ty) (x : AV) (h : Heap) : Option (AV × Heap) := if fits T t x = true then some (.ref h.length [] (T.und t), h ++ [.var t x]) else none
def aStore (T : Tab) (t : Ty) (a x : AV) (h : Heap) : Option Heap :=
  match a with
  | .ref r p u => if u = T.und t ∧ fits T t x = true then
      match (h[r]?).bind (objSet x · p) with
      | some ob => some (h.set r ob)
      | none => none
    else none
  | _ => none
def aMake (T : Tab) (t : Ty) (l c : AV) (h : Heap) : Option (AV × Heap) := (aZeros T t l c).map fun x =>
  if x.2.1 = 0 then (.vsl x.1 [] .none, h) else (.msl h.length [] x.1 0 x.2.1, h ++ [.row x.1 (List.replicate x.2.2.1 x.2.2.2)])
def aRowLit (T : Tab) (t : Ty) (len : Nat) (ps : List (Nat × AV)) (h : Heap) : Option (AV × Heap) :=
  match aElems T t len ps with
  | some (e, l) => if 0 < l.length then some (.msl h.length [] e 0 l.length, h ++ [.row e l]) else none
  | none => none
def aApp (T : Tab) (t u : Ty) (mu : Bool) (s x : AV) (h : Heap) : Option (AV × Heap) :=
  match T.d t, T.d u with
  | .slice e, .slice _ => match srcElems T e h x with
    | some new => aAppend T e mu s new h
    | none => none
  | .slice e, .str => match srcElems T e h x with
    | some new => aAppend T e mu s new h
    | none => none
  | _, _ => none
def aCpy (T : Tab) (t : Ty) (d x : AV) (h : Heap) : Option (AV × Heap) :=
  match T.d t with
  | .slice e => match d with
    | .msl r p e' off len => if e' = T.und e then
        match srcElems T e h x with
        | some src => aCopy h (.msl r p e' off len) src
        | none => none
      else none
    | .vsl e' [] _ => if e' = T.und e then
        match srcElems T e h x with
        | some _ => some (.int .i64 0, h)
        | none => none
      else none
    | _ => none
  | _ => none
def aCall (call : CallF) (md : Bool) (x : AV) (args : List AV) (h : Heap) : Option (AV × Heap) :=
  match x with
  | .fn (.func g) cs => call md g (args ++ cs) h
  | _ => none
section
variable (C : Cfg) (call : CallF) (mode : Bool) (f : FuncId)
def opK (ρ : Operand → AV) (o : Oper) (h : Heap) (k0 : AV → Heap → Option β) : Option β :=
  let k : AV → Heap → Option β := if isFrz C f o then fun v h => bnd2 (freezeA v h) k0 else k0
  match o.op with
  | .move x | .assign x => k (ρ x) h
  | .pick c a b => bnd (aPick (ρ c) (ρ a) (ρ b)) (k · h)
  | .build t ps => bnd (aBuild C.T t (ps.toList.map fun x => (x.1, ρ x.2))) (k · h)
  | .binOp op t x y _ => bnd (aBinC C.T op t (ρ x) (ρ y) (isC x || isC y)) (k · h)
  | .unOp op _ x => bnd (aUn op (ρ x)) (k · h)
  | .nilCheck x => bnd (aNil (ρ x)) (k · h)
  | .fieldAddr t x i => bnd (aFieldAddr C.T t (ρ x) i) (k · h)
  | .field t x i => bnd (aField C.T t (ρ x) i) (k · h)
  | .indexAddr t x i => bnd (aIndexAddr C.T t (ρ x) (ρ i)) (k · h)
  | .index t x i => bnd (aIndex C.T t (ρ x) (ρ i)) (k · h)
  | .extract x i => bnd (aExtract (ρ x) i) (k · h)
  | .slice t x lo hi mx => bnd (aSlice C.T t (ρ x) (lo.map ρ) (hi.map ρ) (mx.map ρ)) (k · h)
  | .load t x => bnd (aLoad C.T t (ρ x) h) (k · h)
  | .convert s t x => bnd (aConv C.T s t (ρ x) h) (k · h)
  | .buildSlice t len ps => if opKind C f o = .eff then bnd2 (aRowLit C.T t len (ps.toList.map fun x => (x.1, ρ x.2)) h) k else bnd (aLit C.T t len (ps.toList.map fun x => (x.1, ρ x.2))) (k · h)
  | .makeSlice t l c => if opKind C f o = .eff then bnd2 (aMake C.T t (ρ l) (ρ c) h) k else bnd (aZeroSl C.T t (ρ l) (ρ c)) (k · h)
  | .alloc t => bnd2 (aAlloc C.T t h) k
  | .box t x => bnd2 (aBoxv C.T t (ρ x) h) k
  | .store t a x => bnd (aStore C.T t (ρ a) (ρ x) h) fun h' => k .undef h'
  | .call c => match c.callee with
    | .builtin .len => match c.args.toList, c.argTypes.toList with
      | [x], [t] => bnd (aLen C.T t (ρ x)) (k · h)
      | _, _ => none
    | .builtin .min => bnd (aMin (c.args.toList.map ρ)) (k · h)
    | .builtin .max => bnd (aMax (c.args.toList.map ρ)) (k · h)
    | .builtin .append => match c.args.toList, c.argTypes.toList with
      | [s, x], [t, u] => bnd2 (aApp C.T t u (annOf C f o = .mut || mode) (ρ s) (ρ x) h) k
      | _, _ => none
    | .builtin .copy => match c.args.toList, c.argTypes.toList with
      | [d, x], [t, _] => bnd2 (aCpy C.T t (ρ d) (ρ x) h) k
      | _, _ => none
    | .value x => bnd2 (aCall call (annOf C f o = .flip || mode) (ρ x) (c.args.toList.map ρ) h) k
    | _ => none
  | _ => none
def opB (ρ : Operand → AV) (o : Oper) (h : Heap) (k : AV → Heap → Option β) : Option β :=
  match o.op with
  | .move x | .assign x => k (ρ x) h
  | .pick c a b => bnd (aPick (ρ c) (ρ a) (ρ b)) (k · h)
  | .build t ps => bnd (aBuild C.T t (ps.toList.map fun x => (x.1, ρ x.2))) (k · h)
  | .binOp op t x y _ => bnd (aBinC C.T op t (ρ x) (ρ y) (isC x || isC y)) (k · h)
  | .unOp op _ x => bnd (aUn op (ρ x)) (k · h)
  | .nilCheck x => bnd (aNil (ρ x)) (k · h)
  | .fieldAddr t x i => bnd (aFieldAddr C.T t (ρ x) i) (k · h)
  | .field t x i => bnd (aField C.T t (ρ x) i) (k · h)
  | .indexAddr t x i => bnd (aIndexAddr C.T t (ρ x) (ρ i)) (k · h)
  | .index t x i => bnd (aIndex C.T t (ρ x) (ρ i)) (k · h)
  | .extract x i => bnd (aExtract (ρ x) i) (k · h)
  | .slice t x lo hi mx => bnd (aSlice C.T t (ρ x) (lo.map ρ) (hi.map ρ) (mx.map ρ)) (k · h)
  | .load t x => bnd (aLoad C.T t (ρ x) h) (k · h)
  | .convert s t x => bnd (aConv C.T s t (ρ x) h) (k · h)
  | .buildSlice t len ps => if opKind C f o = .eff then bnd2 (aRowLit C.T t len (ps.toList.map fun x => (x.1, ρ x.2)) h) k else bnd (aLit C.T t len (ps.toList.map fun x => (x.1, ρ x.2))) (k · h)
  | .makeSlice t l c => if opKind C f o = .eff then bnd2 (aMake C.T t (ρ l) (ρ c) h) k else bnd (aZeroSl C.T t (ρ l) (ρ c)) (k · h)
  | .alloc t => bnd2 (aAlloc C.T t h) k
  | .box t x => bnd2 (aBoxv C.T t (ρ x) h) k
  | .store t a x => bnd (aStore C.T t (ρ a) (ρ x) h) fun h' => k .undef h'
  | .call c => match c.callee with
    | .builtin .len => match c.args.toList, c.argTypes.toList with
      | [x], [t] => bnd (aLen C.T t (ρ x)) (k · h)
      | _, _ => none
    | .builtin .min => bnd (aMin (c.args.toList.map ρ)) (k · h)
    | .builtin .max => bnd (aMax (c.args.toList.map ρ)) (k · h)
    | .builtin .append => match c.args.toList, c.argTypes.toList with
      | [s, x], [t, u] => bnd2 (aApp C.T t u (annOf C f o = .mut || mode) (ρ s) (ρ x) h) k
      | _, _ => none
    | .builtin .copy => match c.args.toList, c.argTypes.toList with
      | [d, x], [t, _] => bnd2 (aCpy C.T t (ρ d) (ρ x) h) k
      | _, _ => none
    | .value x => bnd2 (aCall call (annOf C f o = .flip || mode) (ρ x) (c.args.toList.map ρ) h) k
    | _ => none
  | _ => none
theorem opK_opB (ρ : Operand → AV) (o : Oper) (h : Heap) (k : AV → Heap → Option β) :
    opK C call mode f ρ o h k = opB C call mode f ρ o h (if isFrz C f o then fun v h => bnd2 (freezeA v h) k else k) := rfl
theorem bnd_some {α : Type} {x : Option α} {k : α → Option β} {r : β} (h : bnd x k = some r) : ∃ v, x = some v ∧ k v = some r := by
  cases x with
  | none => cases h
  | some v => exact ⟨v, rfl, h⟩
theorem bnd2_some {x : Option (AV × Heap)} {k : AV → Heap → Option β} {r : β} (h : bnd2 x k = some r) : ∃ v h', x = some (v, h') ∧ k v h' = some r := by
  cases x with
  | none => cases h
  | some p => cases p with | mk v h' => exact ⟨v, h', rfl, h⟩
section
variable {C call mode f}
theorem base_pure {ρ : Operand → AV} {o : Oper} {h : Heap} {v : AV} (hk : opKind C f o = .pure) (hp : exPure C.T ρ o = some v) : exBase C call mode f ρ o h = some (v, h) := by
  unfold exBase; rw [hk]; simp only [hp]
theorem base_read {ρ : Operand → AV} {o : Oper} {h : Heap} {v : AV} (hk : opKind C f o = .read) (hp : exRead C.T ρ o h = some v) : exBase C call mode f ρ o h = some (v, h) := by
  unfold exBase; rw [hk]; simp only [hp]
theorem base_eff {ρ : Operand → AV} {o : Oper} {h : Heap} {x : Option (AV × Heap)} (hk : opKind C f o = .eff) (hp : exEff C call mode f ρ o h = x) : exBase C call mode f ρ o h = x := by
  unfold exBase; rw [hk]; exact hp
end
theorem opB_sound {ρ : Operand → AV} {o : Oper} {h : Heap} {k : AV → Heap → Option β} {r : β} (he : opB C call mode f ρ o h k = some r) : ∃ v h', exBase C call mode f ρ o h = some (v, h') ∧ k v h' = some r := by
  obtain ⟨dst, op, ty, pos, after, guard⟩ := o
  cases op with
  | move x => exact ⟨ρ x, h, base_pure rfl rfl, he⟩
  | assign x => exact ⟨ρ x, h, base_pure rfl rfl, he⟩
  | pick c a b => obtain ⟨v, hv, hk⟩ := bnd_some he; exact ⟨v, h, base_pure rfl hv, hk⟩
  | build t ps => obtain ⟨v, hv, hk⟩ := bnd_some he; exact ⟨v, h, base_pure rfl hv, hk⟩
  | binOp op t x y yt => obtain ⟨v, hv, hk⟩ := bnd_some he; exact ⟨v, h, base_pure rfl hv, hk⟩
  | unOp op t x => obtain ⟨v, hv, hk⟩ := bnd_some he; exact ⟨v, h, base_pure rfl hv, hk⟩
  | nilCheck x => obtain ⟨v, hv, hk⟩ := bnd_some he; exact ⟨v, h, base_pure rfl hv, hk⟩
  | fieldAddr t x i => obtain ⟨v, hv, hk⟩ := bnd_some he; exact ⟨v, h, base_pure rfl hv, hk⟩
  | field t x i => obtain ⟨v, hv, hk⟩ := bnd_some he; exact ⟨v, h, base_pure rfl hv, hk⟩
  | indexAddr t x i => obtain ⟨v, hv, hk⟩ := bnd_some he; exact ⟨v, h, base_pure rfl hv, hk⟩
  | index t x i => obtain ⟨v, hv, hk⟩ := bnd_some he; exact ⟨v, h, base_pure rfl hv, hk⟩
  | extract x i => obtain ⟨v, hv, hk⟩ := bnd_some he; exact ⟨v, h, base_pure rfl hv, hk⟩
  | slice t x lo hi mx => obtain ⟨v, hv, hk⟩ := bnd_some he; exact ⟨v, h, base_pure rfl hv, hk⟩
  | load t x => obtain ⟨v, hv, hk⟩ := bnd_some he; exact ⟨v, h, base_read rfl hv, hk⟩
  | convert s t x => obtain ⟨v, hv, hk⟩ := bnd_some he; exact ⟨v, h, base_read rfl hv, hk⟩
  | alloc t => obtain ⟨v, h', hv, hk⟩ := bnd2_some he; exact ⟨v, h', base_eff rfl hv, hk⟩
  | box t x => obtain ⟨v, h', hv, hk⟩ := bnd2_some he; exact ⟨v, h', base_eff rfl hv, hk⟩
  | store t a x =>
    obtain ⟨h', hv, hk⟩ := bnd_some he
    refine ⟨.undef, h', base_eff rfl ?_, hk⟩
    unfold aStore at hv
    simp only [exEff]
    split at hv
    · rename_i r' p u hax
      by_cases hc : u = C.T.und t ∧ fits C.T t (ρ x) = true
      case neg => rw [if_neg hc] at hv; cases hv
      rw [if_pos hc] at hv
      rw [hax]
      simp only
      rw [if_pos hc]
      split at hv
      · rename_i ob hob
        rw [hob]
        simp only [Option.some.injEq] at hv ⊢
        rw [hv]
      · cases hv
    · cases hv
  | buildSlice t len ps =>
    simp only [opB] at he
    split at he
    · rename_i hk
      obtain ⟨v, h', hv, hk'⟩ := bnd2_some he
      exact ⟨v, h', base_eff hk hv, hk'⟩
    · rename_i hk
      obtain ⟨v, hv, hk'⟩ := bnd_some he
      refine ⟨v, h, base_pure ?_ hv, hk'⟩
      unfold opKind at hk ⊢
      simp only at hk ⊢
      split at hk
      · rename_i d
        by_cases ha : C.ann f d = .mut
        · simp [ha] at hk
        · simp [ha]
      · rfl
  | makeSlice t l c =>
    simp only [opB] at he
    split at he
    · rename_i hk
      obtain ⟨v, h', hv, hk'⟩ := bnd2_some he
      exact ⟨v, h', base_eff hk hv, hk'⟩
    · rename_i hk
      obtain ⟨v, hv, hk'⟩ := bnd_some he
      refine ⟨v, h, base_pure ?_ hv, hk'⟩
      unfold opKind at hk ⊢
      simp only at hk ⊢
      split at hk
      · rename_i d
        by_cases ha : C.ann f d = .freeze
        · simp [ha]
        · simp [ha] at hk
      · exact absurd rfl hk
  | call c =>
    obtain ⟨callee, args, ats⟩ := c
    cases callee with
    | invoke rcv nm => cases he
    | value x =>
      obtain ⟨v, h', hv, hk⟩ := bnd2_some he
      refine ⟨v, h', base_eff rfl ?_, hk⟩
      simp only [exEff]
      exact hv
    | builtin b =>
      cases b with
      | len =>
        simp only [opB] at he
        split at he
        · rename_i x t hx ht
          obtain ⟨v, hv, hk⟩ := bnd_some he
          refine ⟨v, h, base_pure rfl ?_, hk⟩
          simp only [exPure, hx, ht]
          exact hv
        · cases he
      | min =>
        obtain ⟨v, hv, hk⟩ := bnd_some he
        exact ⟨v, h, base_pure rfl hv, hk⟩
      | max =>
        obtain ⟨v, hv, hk⟩ := bnd_some he
        exact ⟨v, h, base_pure rfl hv, hk⟩
      | append =>
        simp only [opB] at he
        split at he
        · rename_i s x t u hx ht
          obtain ⟨v, h', hv, hk⟩ := bnd2_some he
          refine ⟨v, h', base_eff rfl ?_, hk⟩
          simp only [exEff, hx, ht]
          exact hv
        · cases he
      | copy =>
        simp only [opB] at he
        split at he
        · rename_i d x t u hx ht
          obtain ⟨v, h', hv, hk⟩ := bnd2_some he
          refine ⟨v, h', base_eff rfl ?_, hk⟩
          simp only [exEff, hx, ht]
          exact hv
        · cases he
      | _ => cases he
  | _ => cases he
theorem opK_sound {ρ : Operand → AV} {o : Oper} {h : Heap} {k : AV → Heap → Option β} {r : β} (he : opK C call mode f ρ o h k = some r) : ∃ v h', exOp C call mode f ρ o h = some (v, h') ∧ k v h' = some r := by
  rw [opK_opB] at he
  obtain ⟨v, h', hb, hk⟩ := opB_sound C call mode f he
  unfold exOp
  rw [hb]
  simp only
  split at hk
  · rename_i hz
    obtain ⟨v2, h2, hf, hk2⟩ := bnd2_some hk
    exact ⟨v2, h2, by rw [if_pos hz]; exact hf, hk2⟩
  · rename_i hz
    exact ⟨v, h', by rw [if_neg hz], hk⟩
def onG (want : Bool) (c : AV) (x y : Option β) : Option β :=
  match c with
  | .bool b => if b = want then x else y
  | .skip => y
  | _ => none
theorem onG_some {want : Bool} {c : AV} {x y : Option β} {r : β} (h : onG want c x y = some r) : (c = .bool want ∧ x = some r) ∨ ((c = .bool (!want) ∨ c = .skip) ∧ y = some r) := by
  unfold onG at h
  split at h
  · rename_i b
    split at h
    · rename_i hb; subst hb; exact .inl ⟨rfl, h⟩
    · rename_i hb; exact .inr ⟨.inl (by cases b <;> cases want <;> simp_all), h⟩
  · exact .inr ⟨.inr rfl, h⟩
  · cases h
theorem onB_some {c : AV} {x y : Option β} {r : β} (h : onB c x y = some r) : (c = .bool true ∧ x = some r) ∨ (c = .bool false ∧ y = some r) := by
  unfold onB at h
  split at h
  · exact .inl ⟨rfl, h⟩
  · exact .inr ⟨rfl, h⟩
  · cases h
def guardK (ops : Array Oper) (tm : List AV) (g : Option (Nat × Bool)) (x y : Option β) : Option β :=
  match g with
  | none => x
  | some (j, want) => match (ops[j]?).bind (·.dst) with
    | some d => onG want (tm.getD d .undef) x y
    | none => none
theorem guardK_sound {ops : Array Oper} {tm : List AV} {g : Option (Nat × Bool)} {x y : Option β} {r : β} (h : guardK ops tm g x y = some r) :
    (guardA ops tm g = some true ∧ x = some r) ∨ (guardA ops tm g = some false ∧ y = some r) := by
  unfold guardK at h
  unfold guardA
  cases g with
  | none => exact .inl ⟨rfl, h⟩
  | some jw =>
    obtain ⟨j, want⟩ := jw
    simp only at h ⊢
    cases hd : (ops[j]?).bind (·.dst) with
    | none => simp [hd] at h
    | some d =>
      simp only [hd] at h ⊢
      have hget : ∀ v, v ≠ .undef → tm.getD d .undef = v → tm[d]? = some v := by
        intro v hne hb
        rw [List.getD_eq_getElem?_getD] at hb
        cases ht : tm[d]? with
        | none => simp only [ht, Option.getD_none] at hb; exact absurd hb.symm hne
        | some v => simp only [ht, Option.getD_some] at hb; rw [hb]
      rcases onG_some h with ⟨h1, h2⟩ | ⟨h1 | h1, h2⟩
      · exact .inl ⟨by rw [hget _ (by simp) h1]; cases want <;> rfl, h2⟩
      · exact .inr ⟨by rw [hget _ (by simp) h1]; cases want <;> rfl, h2⟩
      · exact .inr ⟨by rw [hget _ (by simp) h1], h2⟩
theorem gd_ex : ∃ f : (β : Type) → Bool → AV → Heap → ((AV → Heap → Option β) → Option β) → (AV → Heap → Option β) → Option β, ∀ β w c h b k, f β w c h b k = onG w c (b k) (k .skip h) :=
  ⟨fun _ w c h b k => onG w c (b k) (k .skip h), fun _ _ _ _ _ _ => rfl⟩
noncomputable def gd (want : Bool) (c : AV) (h : Heap) (b : (AV → Heap → Option β) → Option β) (k : AV → Heap → Option β) : Option β := Classical.choose gd_ex β want c h b k
theorem gd_eq (w : Bool) (c : AV) (h : Heap) (b : (AV → Heap → Option β) → Option β) (k : AV → Heap → Option β) : gd w c h b k = onG w c (b k) (k .skip h) := Classical.choose_spec gd_ex β w c h b k
noncomputable def guardV (ops : Array Oper) (tm : List AV) (g : Option (Nat × Bool)) (h : Heap) (b : (AV → Heap → Option β) → Option β) (k : AV → Heap → Option β) : Option β :=
  match g with
  | none => b k
  | some (j, want) => match (ops[j]?).bind (·.dst) with
    | some d => gd want (tm.getD d .undef) h b k
    | none => none
theorem guardV_eq (ops : Array Oper) (tm : List AV) (g : Option (Nat × Bool)) (h : Heap) (b : (AV → Heap → Option β) → Option β) (k : AV → Heap → Option β) :
    guardV ops tm g h b k = guardK ops tm g (b k) (k .skip h) := by
  unfold guardV guardK
  cases g with
  | none => rfl
  | some jw =>
    simp only [gd_eq]
def guardC (w : Bool) (c : AV) : Option Bool :=
  match c with
  | .bool b => some (b == w)
  | .skip => some false
  | _ => none
def okG (w : Bool) (c : AV) (b : Bool) : Bool := offA (guardC w c) || b
noncomputable def opsK (ops : Array Oper) : List Oper → List AV → Heap → (List AV → Heap → Option β) → Option β
  | [], tm, h, k => k tm h
  | o :: r, tm, h, k => guardV ops tm o.guard h (fun kk => opK C call mode f (evalA tm) o h kk) fun v h' => opsK ops r (putT tm o.dst v) h' k
theorem opsK_sound {ops : Array Oper} : ∀ {l : List Oper} {tm : List AV} {h : Heap} {k : List AV → Heap → Option β} {r : β}, opsK C call mode f ops l tm h k = some r →
    ∃ tm' h', runOps C call mode f ops l tm h = some (tm', h') ∧ k tm' h' = some r
  | [], tm, h, k, r, he => ⟨tm, h, rfl, he⟩
  | o :: l, tm, h, k, r, he => by
    simp only [opsK, guardV_eq] at he
    rcases guardK_sound he with ⟨h1, h2⟩ | ⟨h1, h2⟩
    · obtain ⟨v, h', h3, h4⟩ := opK_sound C call mode f h2
      obtain ⟨tm', h'', h5, h6⟩ := opsK_sound h4
      exact ⟨tm', h'', by simp only [runOps, stepA, h1, h3]; exact h5, h6⟩
    · obtain ⟨tm', h'', h5, h6⟩ := opsK_sound h2
      exact ⟨tm', h'', by simp only [runOps, stepA, h1]; exact h5, h6⟩
noncomputable def trcK (ops : Array Oper) : List Oper → List AV → Heap → List (List AV × Heap × AV) → (List (List AV × Heap × AV) → List AV → Heap → Option β) → Option β
  | [], tm, h, acc, k => k acc tm h
  | o :: r, tm, h, acc, k => guardV ops tm o.guard h (fun kk => opK C call mode f (evalA tm) o h kk) fun v h' => trcK ops r (putT tm o.dst v) h' (acc ++ [(tm, h, v)]) k
theorem trcK_sound {ops : Array Oper} : ∀ {l : List Oper} {tm : List AV} {h : Heap} {acc : List (List AV × Heap × AV)} {k : List (List AV × Heap × AV) → List AV → Heap → Option β} {r : β},
    trcK C call mode f ops l tm h acc k = some r → ∃ tr tm' h', traceOps C call mode f ops l tm h = some (tr, tm', h') ∧ k (acc ++ tr) tm' h' = some r
  | [], tm, h, acc, k, r, he => ⟨[], tm, h, rfl, by simp only [trcK] at he; simpa using he⟩
  | o :: l, tm, h, acc, k, r, he => by
    simp only [trcK, guardV_eq] at he
    rcases guardK_sound he with ⟨h1, h2⟩ | ⟨h1, h2⟩
    · obtain ⟨v, h', h3, h4⟩ := opK_sound C call mode f h2
      obtain ⟨tr, tm', h'', h5, h6⟩ := trcK_sound h4
      exact ⟨(tm, h, v) :: tr, tm', h'', by simp only [traceOps, stepA, h1, h3, h5], by simpa using h6⟩
    · obtain ⟨tr, tm', h'', h5, h6⟩ := trcK_sound h2
      exact ⟨(tm, h, .skip) :: tr, tm', h'', by simp only [traceOps, stepA, h1, h5], by simpa using h6⟩
def chkK (all : Array Oper) (ops : List Oper) (tr : List (List AV × Heap × AV)) (last : Heap) : List (Nat × Nat) → Option β → Option β
  | [], k => k
  | x :: r, k => onT (readOk C all ops tr last x) (chkK all ops tr last r k)
theorem chkK_sound {all : Array Oper} {ops : List Oper} {tr : List (List AV × Heap × AV)} {last : Heap} : ∀ {ps : List (Nat × Nat)} {k : Option β} {r : β}, chkK C all ops tr last ps k = some r → readsOk C all ops tr last ps = true ∧ k = some r
  | [], k, r, he => ⟨rfl, he⟩
  | x :: ps, k, r, he => by
    simp only [chkK, onT] at he
    split at he
    · rename_i hx
      obtain ⟨h1, h2⟩ := chkK_sound he
      exact ⟨by simp only [readsOk, hx, h1]; rfl, h2⟩
    · cases he
noncomputable def regK (ops : Array Oper) (draw : Bool) (tm : List AV) (h : Heap) (k : List AV → Heap → Option β) : Option β :=
  if draw then
    if drawOk C f ops.toList (masks ops.toList []) ops then
      trcK C call mode f ops ops.toList tm h [] fun tr tm' h' => chkK C ops ops.toList tr h' (pairsOf C f ops.toList (masks ops.toList [])) (k tm' h')
    else none
  else opsK C call mode f ops ops.toList tm h k
theorem regK_sound {ops : Array Oper} {draw : Bool} {tm : List AV} {h : Heap} {k : List AV → Heap → Option β} {r : β} (he : regK C call mode f ops draw tm h k = some r) :
    ∃ tm' h', exRegion C call mode f ops draw tm h = some (tm', h') ∧ k tm' h' = some r := by
  unfold regK at he
  unfold exRegion
  cases draw with
  | false => exact opsK_sound C call mode f he
  | true =>
    simp only [if_true] at he ⊢
    split at he
    · rename_i hok
      rw [if_pos hok]
      obtain ⟨tr, tm', h', h1, h2⟩ := trcK_sound C call mode f he
      obtain ⟨h3, h4⟩ := chkK_sound C h2
      simp only [List.nil_append] at h3
      exact ⟨tm', h', by simp only [h1]; rw [if_pos h3], h4⟩
    · cases he
theorem trcK_ops {ops : Array Oper} : ∀ (l : List Oper) (tm : List AV) (h : Heap) (acc : List (List AV × Heap × AV)) (k : List AV → Heap → Option β),
    trcK C call mode f ops l tm h acc (fun _ tm h => k tm h) = opsK C call mode f ops l tm h k
  | [], tm, h, acc, k => rfl
  | o :: l, tm, h, acc, k => by simp only [trcK, opsK, trcK_ops l]
theorem regK_draw {ops : Array Oper} (hd : drawOk C f ops.toList (masks ops.toList []) ops = true) (hp : pairsOf C f ops.toList (masks ops.toList []) = []) (tm : List AV) (h : Heap) (k : List AV → Heap → Option β) :
    regK C call mode f ops true tm h k = opsK C call mode f ops ops.toList tm h k := by
  unfold regK
  simp only [if_true]
  rw [if_pos hd, hp]
  exact trcK_ops C call mode f ops.toList tm h [] k
theorem regK_pairs {ops : Array Oper} {ps : List (Nat × Nat)} (hd : drawOk C f ops.toList (masks ops.toList []) ops = true) (hp : pairsOf C f ops.toList (masks ops.toList []) = ps) (tm : List AV) (h : Heap) (k : List AV → Heap → Option β) :
    regK C call mode f ops true tm h k = trcK C call mode f ops ops.toList tm h [] fun tr tm' h' => chkK C ops ops.toList tr h' ps (k tm' h') := by
  unfold regK
  simp only [if_true]
  rw [if_pos hd, hp]
def loopK (step : (List AV → Heap → Option β) → List AV → Heap → Option β) : Nat → List AV → Heap → Option β
  | 0, _, _ => none
  | n + 1, tm, h => step (loopK step n) tm h
noncomputable def runK (n : Nat) : Code → (Ex → List AV → Heap → Option β) → List AV → Heap → Option β
  | .skip, k, tm, h => k .normal tm h
  | .label _, k, tm, h => k .normal tm h
  | .ret, k, tm, h => k .ret tm h
  | .exit id, k, tm, h => k (.exit id) tm h
  | .region id ops draw, k, tm, h => regK C call mode f ops draw tm h fun tm' h' => k .normal (clr (C.keep f id) tm') h'
  | .seq a b, k, tm, h => runK n a (fun ex tm' h' => match ex with
    | .normal => runK n b k tm' h'
    | ex => k ex tm' h') tm h
  | .cond c x y, k, tm, h => onB (evalA tm c) (runK n x k tm h) (runK n y k tm h)
  | .block id c, k, tm, h => runK n c (fun ex tm' h' => match ex with
    | .exit id' => if id' = id then k .normal tm' h' else k (.exit id') tm' h'
    | ex => k ex tm' h') tm h
  | .loop c, k, tm, h => loopK (fun next => runK n c fun ex tm' h' => match ex with
    | .normal => next tm' h'
    | ex => k ex tm' h') n tm h
  | _, _, _, _ => none
theorem runK_draw (n id : Nat) (ops : Array Oper) (k : Ex → List AV → Heap → Option β) (tm : List AV) (h : Heap) :
    runK C call mode f n (.region id ops true) k tm h = regK C call mode f ops true tm h fun tm h => k .normal (clr (C.keep f id) tm) h := rfl
theorem runK_sound (n : Nat) : ∀ (c : Code) {k : Ex → List AV → Heap → Option β} {tm : List AV} {h : Heap} {r : β}, runK C call mode f n c k tm h = some r →
    ∃ ex tm' h', exCode C call mode f n c tm h = some (ex, tm', h') ∧ k ex tm' h' = some r
  | .skip, k, tm, h, r, he => ⟨.normal, tm, h, rfl, he⟩
  | .label _, k, tm, h, r, he => ⟨.normal, tm, h, rfl, he⟩
  | .ret, k, tm, h, r, he => ⟨.ret, tm, h, rfl, he⟩
  | .exit id, k, tm, h, r, he => ⟨.exit id, tm, h, rfl, he⟩
  | .region id ops draw, k, tm, h, r, he => by
    obtain ⟨tm', h', h1, h2⟩ := regK_sound C call mode f he
    exact ⟨.normal, clr (C.keep f id) tm', h', by simp only [exCode, h1], h2⟩
  | .seq a b, k, tm, h, r, he => by
    simp only [runK] at he
    obtain ⟨ex, tm', h', h1, h2⟩ := runK_sound n a he
    cases ex with
    | normal =>
      obtain ⟨ex2, tm2, h3, h4, h5⟩ := runK_sound n b h2
      exact ⟨ex2, tm2, h3, by simp only [exCode, h1, h4], h5⟩
    | exit id => exact ⟨.exit id, tm', h', by simp only [exCode, h1], h2⟩
    | ret => exact ⟨.ret, tm', h', by simp only [exCode, h1], h2⟩
  | .cond c x y, k, tm, h, r, he => by
    simp only [runK] at he
    rcases onB_some he with ⟨h1, h2⟩ | ⟨h1, h2⟩
    · obtain ⟨ex, tm', h', h3, h4⟩ := runK_sound n x h2
      exact ⟨ex, tm', h', by simp only [exCode, h1, h3], h4⟩
    · obtain ⟨ex, tm', h', h3, h4⟩ := runK_sound n y h2
      exact ⟨ex, tm', h', by simp only [exCode, h1, h3], h4⟩
  | .block id c, k, tm, h, r, he => by
    simp only [runK] at he
    obtain ⟨ex, tm', h', h1, h2⟩ := runK_sound n c he
    cases ex with
    | normal => exact ⟨.normal, tm', h', by simp only [exCode, h1], h2⟩
    | exit id' =>
      simp only at h2
      by_cases hid : id' = id
      · rw [if_pos hid] at h2
        exact ⟨.normal, tm', h', by simp only [exCode, h1, hid, if_true], h2⟩
      · rw [if_neg hid] at h2
        exact ⟨.exit id', tm', h', by simp only [exCode, h1, hid, if_false], h2⟩
    | ret => exact ⟨.ret, tm', h', by simp only [exCode, h1], h2⟩
  | .loop c, k, tm, h, r, he => by
    simp only [runK] at he
    have key : ∀ (m : Nat) {tm : List AV} {h : Heap}, loopK (fun next => runK C call mode f n c fun ex tm' h' => match ex with
        | .normal => next tm' h'
        | ex => k ex tm' h') m tm h = some r → ∃ ex tm' h', loopA (exCode C call mode f n c) m tm h = some (ex, tm', h') ∧ k ex tm' h' = some r := by
      intro m
      induction m with
      | zero => intro tm h he; simp [loopK] at he
      | succ m ih =>
        intro tm h he
        simp only [loopK] at he
        obtain ⟨ex, tm', h', h1, h2⟩ := runK_sound n c he
        cases ex with
        | normal =>
          obtain ⟨ex2, tm2, h3, h4, h5⟩ := ih h2
          exact ⟨ex2, tm2, h3, by simp only [loopA, h1, h4], h5⟩
        | exit id => exact ⟨.exit id, tm', h', by simp only [loopA, h1], h2⟩
        | ret => exact ⟨.ret, tm', h', by simp only [loopA, h1], h2⟩
    obtain ⟨ex, tm', h', h1, h2⟩ := key n he
    exact ⟨ex, tm', h', by simp only [exCode, h1], h2⟩
  | .rangeFunc .., _, _, _, _, he => by simp [runK] at he
  | .scope _, _, _, _, _, he => by simp [runK] at he
  | .goto _, _, _, _, _, he => by simp [runK] at he
  | .refuse _, _, _, _, _, he => by simp [runK] at he
end
def retK (rs : List Nat) : Ex → List AV → Heap → Option (AV × Heap)
  | .normal, tm, h => some (results rs tm, h)
  | .ret, tm, h => some (results rs tm, h)
  | _, _, _ => none
noncomputable def fnK (C : Cfg) (call : CallF) (mode : Bool) (f : FuncId) (n : Nat) (x : Fn') (args : List AV) (h : Heap) : Option (AV × Heap) :=
  runK C call mode f n x.body (retK x.results) (args ++ List.replicate (x.ntmps - args.length) .undef) h
theorem exFn_of {C : Cfg} {E : Funs} {k : Nat} {mode : Bool} {f : FuncId} {x : Fn'} {args : List AV} {h : Heap} {r : AV × Heap} (hx : E f = some x) (he : fnK C (exFn C E k) mode f k x args h = some r) :
    exFn C E (k + 1) mode f args h = some r := by
  obtain ⟨ex, tm', h', h1, h2⟩ := runK_sound C (exFn C E k) mode f k x.body he
  simp only [exFn, hx, h1]
  cases ex with
  | normal => exact h2
  | ret => exact h2
  | exit id => cases h2
theorem exFn_cnt {C : Cfg} {E : Funs} {k : Nat} {mode : Bool} {f : FuncId} {args : List AV} {h : Heap} (hx : E f = none) (hc : C.cnt f = true) : exFn C E (k + 1) mode f args h = aCount args h := by
  simp only [exFn, hx, hc, if_true]
end Go.Ax

namespace Go.Ax
open Go Go.Proofs
def tmpsOf : List ResultVar → Option (List Nat)
  | [] => some []
  | .tmp t :: r => (tmpsOf r).map (t :: ·)
  | _ :: _ => none
theorem tmpsOf_some : ∀ {l : List ResultVar} {r : List Nat}, tmpsOf l = some r → l = r.map ResultVar.tmp
  | [], r, h => by simp only [tmpsOf, Option.some.injEq] at h; subst h; rfl
  | .tmp t :: l, r, h => by
    simp only [tmpsOf, Option.map_eq_some_iff] at h
    obtain ⟨r', h1, h2⟩ := h
    subst h2
    rw [tmpsOf_some h1]; rfl
  | .cell _ _ :: l, r, h => by simp [tmpsOf] at h
def toFn (f : Func) : Option Fn' :=
  match f.body, tmpsOf f.results.toList with
  | some b, some rs => if (f.name == "runtime.NumGoroutine") = true then none else some ⟨f.ntmps, rs, b⟩
  | _, _ => none
theorem toFn_some {f : Func} {x : Fn'} (h : toFn f = some x) : f.body = some x.body ∧ f.ntmps = x.ntmps ∧ f.results = (x.results.map ResultVar.tmp).toArray ∧ (f.name == "runtime.NumGoroutine") = false := by
  unfold toFn at h
  split at h
  · rename_i b rs hb hr
    split at h
    · cases h
    · rename_i hn
      simp only [Option.some.injEq] at h
      subst h
      refine ⟨hb, rfl, ?_, by simpa using hn⟩
      have := tmpsOf_some hr
      rw [← this]
  · cases h
noncomputable def E0 : Funs := fun g => (Try.prog.funcs[g]?).bind toFn
theorem E0_ok : FunsOk Try.prog E0 := by
  refine ⟨fun g x hx => ?_⟩
  unfold E0 at hx
  cases hf : Try.prog.funcs[g]? with
  | none => simp [hf] at hx
  | some f =>
    simp only [hf, Option.bind_some] at hx
    obtain ⟨h1, h2, h3, h4⟩ := toFn_some hx
    exact ⟨f, rfl, h1, h2, h3, h4⟩
noncomputable def bodyOf (f : Func) : Code := f.body.getD .skip
def findOps (i : Nat) : Code → Option (Array Oper)
  | .region id ops _ => if id = i then some ops else none
  | .seq a b => match findOps i a with
    | some o => some o
    | none => findOps i b
  | .cond _ a b => match findOps i a with
    | some o => some o
    | none => findOps i b
  | .block _ c => findOps i c
  | .loop c => findOps i c
  | .scope c => findOps i c
  | _ => none
def opsOf (i : Nat) (c : Code) : Array Oper := (findOps i c).getD #[]
def annOfL : List (List (Nat × Ann)) → Nat → Nat → Ann
  | l, f, d => match (l.getD f []).lookup d with
    | some a => a
    | none => .plain
def keepOfL : List (List (Nat × List Nat)) → Nat → Nat → Option (List Nat)
  | l, f, i => (l.getD f []).lookup i
def stFrom (l : List (Nat × AV)) : Nat → Nat → List AV
  | 0, _ => []
  | n + 1, i => ((l.lookup i).getD .undef) :: stFrom l n (i + 1)
def st (n : Nat) (l : List (Nat × AV)) : List AV := stFrom l n 0
theorem stFrom_getD (l : List (Nat × AV)) : ∀ (n i j : Nat), (stFrom l n i).getD j .undef = if j < n then (l.lookup (i + j)).getD .undef else .undef
  | 0, i, j => by simp [stFrom]
  | n + 1, i, 0 => by simp [stFrom]
  | n + 1, i, j + 1 => by
    have := stFrom_getD l n (i + 1) j
    simp only [stFrom, List.getD_cons_succ, this, Nat.add_lt_add_iff_right]
    rw [show i + 1 + j = i + (j + 1) by omega]
theorem st_getD (n : Nat) (l : List (Nat × AV)) (j : Nat) : (st n l).getD j .undef = if j < n then (l.lookup j).getD .undef else .undef := by
  unfold st; rw [stFrom_getD]; simp
theorem st_tmp (n : Nat) (l : List (Nat × AV)) (j : Nat) : evalA (st n l) (.tmp j) = if j < n then (l.lookup j).getD .undef else .undef := st_getD n l j
def annL : List (List (Nat × Ann)) := [[],
  [],
  [],
  [],
  [],
  [],
  [],
  [(32, .freeze)],
  [],
  [(53, .flip)],
  [],
  [],
  [(9, .mut), (10, .freeze)],
  [],
  [],
  [],
  [],
  [],
  [],
  [],
  [],
  [(2, .freeze)],
  [],
  [],
  [],
  [],
  [],
  [(40, .mut)],
  [],
  [(21, .freeze)],
  [],
  [],
  [],
  [],
  [],
  [],
  [(17, .mut), (18, .freeze)],
  [],
  [],
  [(21, .freeze), (23, .mut)],
  [],
  [],
  [],
  [],
  [],
  [],
  [],
  [],
  [],
  [],
  [],
  [],
  [],
  [],
  [],
  [],
  [],
  [(18, .freeze)],
  [],
  [],
  [],
  [],
  [],
  [],
  [],
  [],
  [],
  [],
  [],
  [],
  [],
  [],
  [],
  [],
  [],
  [],
  [],
  [],
  [],
  [],
  [],
  [],
  [],
  [],
  [],
  [],
  []]
def keepL : List (List (Nat × List Nat)) := [[],
  [],
  [(0, [])],
  [(0, [0, 1, 2]), (1, [0, 1, 2, 21]), (2, [6]), (3, [0, 1, 2, 7]), (4, [0, 1, 2, 7, 8, 9]), (5, [0, 1, 7, 8, 9, 10, 11]), (6, [0, 8, 9, 10, 11, 12, 13]), (7, [6])],
  [(0, [0, 1, 2]), (1, [1, 2, 18]), (2, [6]), (3, [1, 2, 7]), (4, [1, 2, 7, 8]), (5, [1, 2, 7, 8, 22]), (6, [1, 2, 7, 8]), (7, [1, 2, 7, 8]), (8, [1, 2, 7]), (9, [7, 9, 10]), (10, [7, 9, 10, 11]), (11, [7, 9, 10, 11, 12]), (12, [7, 9, 10, 11, 12, 45]), (13, [7, 9, 10, 11, 12]), (14, [7, 9, 10, 11, 12, 13]), (15, [7, 9, 10, 11, 12, 13, 15]), (16, [7, 9, 10, 11, 12, 13, 15, 66]), (17, [7, 9, 10, 11, 12, 13, 15]), (18, [7, 9, 10, 11, 12, 71]), (19, [6]), (20, [6])],
  [(0, [0, 1, 2, 3, 4, 5]), (1, [0, 1, 2, 3, 4, 5, 29]), (2, [12]), (3, [0, 1, 2, 3, 4, 5, 13]), (4, [0, 1, 2, 3, 4, 5, 13, 14, 15]), (5, [0, 1, 3, 4, 5, 13, 14, 15]), (6, [0, 1, 3, 4, 5, 13, 15, 17]), (7, [0, 1, 13, 15, 17]), (8, [0, 1, 15, 17, 18]), (9, [15, 17, 18, 20, 21]), (10, [12])],
  [(0, [0, 1, 2, 3, 4]), (1, [0, 1, 2, 3, 4, 22]), (2, [10]), (3, [2, 3, 4, 11, 12, 13]), (4, [2, 3, 4, 11, 12, 13, 14, 15]), (5, [2, 3, 11, 12, 13, 14, 15, 16, 17]), (6, [2, 3, 11, 12, 61]), (7, [10]), (8, [11, 12, 18, 19]), (9, [10])],
  [(0, [0, 1]), (1, [1, 5]), (2, [1, 5, 6]), (3, [1, 5, 7, 9]), (4, [5, 7, 9, 10]), (5, [7, 9, 10, 11]), (6, [7, 9, 10, 12]), (7, [7, 9, 10, 12, 13]), (8, [7, 9, 10, 12, 13, 43]), (9, [7, 9, 10, 12, 13]), (10, [7, 9, 10, 12, 13, 49]), (11, [4]), (12, [7, 9, 10, 12, 14]), (13, [7, 9, 10, 12, 14, 15]), (14, [7, 9, 10, 12, 14, 15, 16]), (15, [7, 9, 10, 12, 14, 15, 16, 17]), (16, [7, 9, 10, 12, 14, 15, 16, 17, 59]), (17, [7, 9, 10, 12, 14, 15, 16, 17]), (18, [4])],
  [(0, [0, 1]), (1, [0, 1, 5]), (2, [0, 1, 5, 6, 8]), (3, [0, 5, 6, 8, 9, 11]), (4, [4])],
  [(0, [0, 1, 2]), (1, [0, 1, 2, 21]), (2, [6]), (3, [0, 1, 2, 7]), (4, [0, 1, 2, 7, 8, 10]), (5, [0, 1, 2, 7, 8, 31]), (6, [6]), (7, [1, 2, 7, 8, 11]), (8, [1, 2, 7, 8, 11, 12]), (9, [1, 2, 7, 8, 11, 12, 38]), (10, [1, 2, 7, 8, 11, 12]), (11, [1, 2, 7, 8, 11, 12, 46]), (12, [6]), (13, [1, 2, 7, 11, 13]), (14, [1, 2, 7, 11, 13, 14]), (15, [1, 2, 7, 11, 13, 14, 58]), (16, [6]), (17, [7, 11, 13, 14]), (18, [7, 11, 13]), (19, [7, 11, 13]), (20, [11, 13, 16, 17, 18]), (21, [11, 13, 16, 17, 18, 19]), (22, [11, 13, 16, 17, 18, 19, 86]), (23, [11, 13, 16, 17, 18, 19]), (24, [6])],
  [(0, [0, 1]), (1, [0, 1, 26]), (2, [4]), (3, [1, 5]), (4, [1, 6, 7]), (5, [1, 6, 7, 8, 9, 10]), (6, [1, 6, 7, 8, 9, 10, 11, 12, 13]), (7, [1, 6, 7, 8, 10, 11, 55]), (8, [4]), (9, [1, 6, 7, 8, 11, 57]), (10, [4]), (11, [1, 6, 7, 8, 11, 14]), (12, [1, 6, 7, 8, 11, 14, 66]), (13, [1, 6, 7, 8, 11, 14]), (14, [1, 6, 7, 8, 11, 14, 15]), (15, [1, 6, 7, 8, 11, 14, 15, 76]), (16, [1, 6, 7, 8, 11, 14, 15, 16, 17]), (17, [1, 6, 7, 8, 11, 14, 15, 16, 17, 78]), (18, [1, 6, 7, 14, 15, 16, 17, 81]), (19, [1, 6, 7, 14, 15, 16, 17]), (20, [1, 6, 7, 14, 16, 17]), (21, [1, 6, 7, 14, 16, 17, 18, 19, 20]), (22, [1, 6, 7, 14, 16, 17, 18, 19, 20, 21, 22, 23]), (23, [1, 6, 7, 14, 16, 17, 18, 20, 21, 118]), (24, [4]), (25, [1, 6, 7, 14, 16, 17, 18, 21, 120]), (26, [4]), (27, [1, 6, 7, 8, 11, 14, 16, 17]), (28, [1, 6, 7, 8, 11, 14, 15, 16, 17, 78, 129]), (29, [1, 6, 7, 8, 11, 14, 16, 17]), (30, [1, 6, 7, 8, 11, 14, 15, 16, 17, 78, 139]), (31, [1, 6, 7, 8, 11, 14, 16, 17]), (32, [1, 6, 7, 8, 11, 14, 15, 16, 17, 149]), (33, [1, 6, 7, 8, 11, 14, 15, 16, 17]), (34, [1, 6, 7, 8, 11, 14, 15, 16, 17]), (35, [1, 6, 7, 8, 11, 14, 16, 17, 162]), (36, [1, 6, 7, 8, 11, 14, 16, 17]), (37, [1, 6, 7, 8, 11, 14, 177]), (38, [4]), (39, [4])],
  [(0, [0, 1, 2, 3, 4, 5, 6]), (1, [0, 1, 2, 3, 4, 5, 6, 33]), (2, [14]), (3, [0, 1, 2, 3, 4, 5, 6, 15]), (4, [0, 1, 2, 3, 4, 5, 6, 15, 16, 18]), (5, [0, 1, 2, 3, 4, 5, 6, 15, 16, 43]), (6, [14]), (7, [0, 1, 2, 3, 4, 5, 6, 15, 16, 19, 20]), (8, [0, 1, 2, 3, 4, 5, 6, 15, 16, 19, 20, 21]), (9, [0, 1, 3, 4, 5, 6, 15, 16, 19, 20, 21]), (10, [0, 1, 3, 4, 5, 6, 15, 16, 19, 20, 21, 22]), (11, [0, 1, 3, 4, 5, 6, 15, 16, 19, 20, 21, 22, 55]), (12, [0, 1, 3, 4, 5, 6, 15, 16, 19, 20, 21, 22]), (13, [0, 1, 3, 4, 5, 6, 15, 16, 19, 20, 21, 22, 63]), (14, [0, 1, 3, 4, 5, 6, 15, 16, 19, 22, 24]), (15, [0, 1, 3, 4, 5, 6, 15, 16, 19, 22, 24, 78]), (16, [0, 1, 3, 4, 5, 6, 15, 16, 19, 22, 23, 24]), (17, [0, 1, 3, 4, 5, 6, 15, 16, 19, 22, 23, 24]), (18, [0, 1, 3, 4, 5, 6, 15, 16, 19, 20, 21, 22, 23, 24]), (19, [0, 1, 3, 4, 5, 6, 15, 16, 19, 20, 21, 22, 24, 100]), (20, [0, 1, 3, 4, 5, 6, 15, 16, 19, 20, 21, 22]), (21, [0, 1, 3, 4, 5, 6, 15, 16, 19, 20, 21, 22, 103]), (22, [14]), (23, [3, 4, 5, 6, 15, 19, 20, 21]), (24, [3, 4, 5, 15, 19, 20, 21]), (25, [3, 4, 5, 15, 19, 20, 21]), (26, [15, 19, 20, 21]), (27, [15, 19, 20, 21, 26, 27]), (28, [19, 20, 21, 26, 27, 29, 30]), (29, [14])],
  [(0, []), (1, [1]), (2, [1, 2, 3]), (3, [2, 3, 4, 5]), (4, [0])],
  [(0, [0]), (1, [2])],
  [(0, [0, 1, 2, 3, 4]), (1, [0, 1, 2, 3, 4, 33]), (2, [10, 11]), (3, [0, 1, 2, 3, 4, 12]), (4, [0, 1, 3, 4, 12, 49]), (5, [10, 11]), (6, [0, 1, 3, 4, 12, 13]), (7, [0, 1, 3, 4, 12, 13, 52]), (8, [0, 1, 3, 4, 12, 13]), (9, [0, 1, 3, 4, 12, 13, 14]), (10, [0, 1, 3, 4, 12, 13, 15]), (11, [0, 1, 3, 4, 12, 13, 15, 72]), (12, [10, 11]), (13, [0, 1, 3, 4, 12, 16]), (14, [0, 1, 3, 4, 12, 16, 77]), (15, [10, 11]), (16, [0, 1, 12, 17]), (17, [0, 1, 12, 17, 86]), (18, [10, 11]), (19, [1, 12, 18]), (20, [1, 12, 18, 91]), (21, [10, 11]), (22, [10, 11])],
  [(0, [0, 1, 2, 3]), (1, [0, 1, 2, 3, 10]), (2, [0, 1, 2, 3, 10, 11, 12]), (3, [0, 1, 2, 3, 10, 11, 22]), (4, [8, 9]), (5, [0, 1, 2, 3, 10, 11]), (6, [0, 1, 2, 3, 10])],
  [(0, [0, 1]), (1, [0, 1, 10]), (2, [4]), (3, [0, 1, 5]), (4, [0, 1, 5, 14]), (5, [0, 1, 5]), (6, [0, 1, 5, 26]), (7, [4]), (8, [4])],
  [(0, [0, 1, 2]), (1, [0, 1, 2, 16]), (2, [6]), (3, [0, 1, 2, 19]), (4, [6]), (5, [0, 2, 7]), (6, [0, 7]), (7, []), (8, [6])],
  [(0, [0]), (1, [0, 5]), (2, [2]), (3, [0, 8]), (4, [2]), (5, [0, 15, 16, 17]), (6, [0, 15, 16, 17, 18]), (7, [0, 4, 15, 16, 17]), (8, [0, 15, 16, 17]), (9, [0, 15, 16, 17]), (10, []), (11, [2])],
  [(0, [0, 1, 2]), (1, [0, 1, 2, 7]), (2, [0, 2, 7, 8]), (3, [0, 2, 7, 8, 19]), (4, [0, 2, 7, 8]), (5, [0, 2, 7, 8, 9]), (6, [0, 2, 7, 8, 30]), (7, [0, 2, 8, 11]), (8, [0, 2, 8, 11, 35]), (9, [6]), (10, [0, 2, 7, 8]), (11, [0, 38]), (12, [6]), (13, [6])],
  [(0, [0, 1]), (1, [0, 1, 9]), (2, [4, 5]), (3, [4, 5])],
  [(0, [0]), (1, [0, 3]), (2, [3]), (3, [2])],
  [(0, [0, 1]), (1, [0, 1, 10]), (2, [4]), (3, [0, 1, 5]), (4, [0, 1, 5, 14]), (5, [0, 1, 5]), (6, [0, 1, 5, 25]), (7, [4]), (8, [4])],
  [(0, [0]), (1, [2])],
  [(0, [0, 1, 5]), (1, [])],
  [(0, [0, 1, 2, 3, 12]), (1, [0, 1, 2, 3, 16, 17, 18]), (2, [0, 1, 2, 3, 16, 17, 18, 19]), (3, [0, 1, 2, 3, 8, 9, 16, 17, 18]), (4, [0, 1, 2, 3, 8, 9, 16, 17, 18, 23]), (5, [0, 1, 2, 3, 9, 10, 16, 17, 18]), (6, [0, 1, 2, 3, 16, 17, 18]), (7, [0, 1, 2, 3, 9, 16, 17, 18, 43]), (8, [0, 1, 2, 3, 16, 17, 18]), (9, [0, 1, 2, 3, 16, 17, 18]), (10, [])],
  [(0, [0]), (1, [2])],
  [(0, [0, 1]), (1, [1, 7, 8]), (2, [1, 7, 8, 9]), (3, [1, 7, 8, 9, 26]), (4, [1, 7, 8, 9]), (5, [1, 7, 8, 9, 10]), (6, [1, 7, 8, 9, 10, 36]), (7, [1, 7, 8, 9, 10, 11, 12]), (8, [1, 7, 8, 9, 10, 11, 12, 13]), (9, [1, 7, 8, 9, 10, 11, 12, 13, 42]), (10, [1, 7, 8, 9, 10, 11, 12, 13, 42, 43]), (11, [1, 7, 8, 9, 11, 12, 13]), (12, [1, 7, 8, 9, 10, 11, 12, 13, 42, 56]), (13, [1, 7, 8, 9, 11, 12, 13]), (14, [1, 7, 8, 9, 10, 11, 12, 13, 42, 62]), (15, [1, 7, 8, 9, 10, 11, 12, 13]), (16, [1, 7, 8, 9, 11, 12, 13]), (17, [1, 7, 8, 9, 10, 11, 12, 13, 80]), (18, [1, 7, 8, 9, 10, 11, 12, 13]), (19, [1, 7, 8, 9, 10, 11, 12, 13]), (20, [1, 7, 8, 9, 11, 12, 13, 93]), (21, [1, 7, 8, 9, 11, 12, 13]), (22, [1, 7, 8, 9, 11, 12, 13, 14]), (23, [1, 7, 8, 9, 11, 12, 13, 14, 100]), (24, [1, 7, 8, 9, 11, 12, 13, 14]), (25, [1, 7, 8, 9, 11, 12, 13, 14]), (26, [1, 7, 8, 9, 121]), (27, [4, 5, 6]), (28, [4, 5, 6])],
  [(0, [0, 1, 2, 3]), (1, [0, 1, 2, 3, 10]), (2, [0, 1, 2, 3, 10, 27]), (3, [0, 1, 2, 3, 10, 11]), (4, [0, 1, 2, 3, 10, 11, 12]), (5, [0, 1, 2, 3, 10, 11, 12, 13]), (6, [0, 1, 2, 3, 10, 12, 13, 54]), (7, [0, 1, 2, 3, 10, 12, 13, 14]), (8, [0, 1, 2, 3, 10, 12, 13, 14, 15]), (9, [0, 1, 2, 3, 10, 12, 13, 14, 15, 57]), (10, [0, 1, 2, 3, 10, 12, 13, 14, 15]), (11, [0, 1, 2, 3, 10, 12, 13, 14, 15]), (12, [0, 1, 2, 3, 10, 13, 14]), (13, [0, 1, 2, 3, 10, 13, 14, 16]), (14, [0, 1, 2, 3, 10, 13, 14, 16, 17]), (15, [0, 1, 2, 3, 10, 13, 14, 16, 17, 18]), (16, [0, 1, 2, 3, 10, 13, 14, 16, 17, 18, 75]), (17, [0, 1, 2, 3, 10, 13, 14, 16, 17, 18]), (18, [0, 1, 2, 3, 10, 13, 14, 16, 17, 18]), (19, [0, 1, 2, 3, 10, 13, 14, 92]), (20, [0, 1, 2, 3, 10, 13]), (21, [0, 1, 2, 3, 10]), (22, [8, 9])],
  [(0, [0, 1, 2]), (1, [0, 1, 2, 10]), (2, [0, 1, 2]), (3, [0, 1, 2, 7]), (4, [0, 1, 2, 7, 15]), (5, [0, 1, 2, 7]), (6, [0, 1, 2, 7, 23]), (7, [0, 1, 2, 8]), (8, [0, 1, 2, 8, 28]), (9, [6]), (10, [0, 1, 2, 7]), (11, [0, 30]), (12, [6]), (13, [6])],
  [(0, [0, 1]), (1, [0, 1, 17]), (2, [4]), (3, [0, 1, 5]), (4, [0, 1, 5, 24]), (5, [0, 1, 5]), (6, [0, 1, 5, 6, 7]), (7, [0, 1, 5, 6, 7, 8, 9]), (8, [0, 1, 5, 64]), (9, [4]), (10, [4])],
  [(0, [0]), (1, [0, 14]), (2, [2, 3, 4]), (3, [0, 5]), (4, [0, 5, 18]), (5, [0, 6]), (6, [0, 6, 22]), (7, [2, 3, 4]), (8, [0, 5]), (9, [0, 5, 7, 8]), (10, [0, 5, 8, 9, 10]), (11, [0, 5, 9, 10, 11]), (12, [0, 5, 9, 10, 11, 43]), (13, [2, 3, 4]), (14, [2, 3, 4])],
  [(0, [0, 1]), (1, [1, 5]), (2, [1, 6]), (3, [1, 6, 7]), (4, [1, 6, 7, 31]), (5, [1, 6, 7]), (6, [1, 6, 7, 8]), (7, [1, 6, 7, 8, 39]), (8, [1, 6, 7, 8]), (9, [1, 6, 7]), (10, [4])],
  [(0, [0, 1]), (1, [0, 1, 5]), (2, [0, 1, 5, 13]), (3, [4]), (4, [0, 1, 7]), (5, [0, 8, 9]), (6, [0, 8, 9, 46]), (7, [0, 9]), (8, [4])],
  [(0, [0]), (1, [0, 6]), (2, [2]), (3, [0, 3]), (4, [2])],
  [(0, [0, 1]), (1, [0, 1, 5]), (2, [0, 1, 5, 14]), (3, [4]), (4, [0, 1, 6]), (5, [0, 1, 6, 7, 8]), (6, [0, 1, 6, 7, 8, 30]), (7, [4]), (8, [0, 1, 6, 7, 8, 34]), (9, [4]), (10, [0, 1, 6, 7, 8, 9]), (11, [0, 1, 6, 7, 8, 9, 54]), (12, [4]), (13, [0, 6, 9, 10]), (14, [0, 6, 9, 10, 71]), (15, [4]), (16, [0, 6, 9, 10]), (17, [0, 6, 9, 10, 82]), (18, [0, 9]), (19, [4])],
  [(0, []), (1, [1]), (2, [1, 2, 4]), (3, [1, 2, 4, 5]), (4, [2, 4, 5, 7, 8]), (5, [0])],
  [(0, [0]), (1, [0, 4]), (2, [2]), (3, [2])],
  [(0, [0, 1]), (1, [0, 1, 6, 7]), (2, [0, 1, 6, 7, 8]), (3, [0, 1, 6, 7, 8, 24]), (4, [0, 1, 6, 7, 8]), (5, [0, 1, 6, 7, 8, 36]), (6, [4, 5]), (7, [4, 5])],
  [(0, [0]), (1, [0, 6]), (2, [0]), (3, [0, 8]), (4, [0]), (5, [0, 3]), (6, [0, 3, 4]), (7, [0, 3, 4, 13]), (8, [0, 3, 4]), (9, [0, 3, 4]), (10, [2])],
  [(0, [0]), (1, [0, 23]), (2, [2, 3, 4]), (3, [0, 5]), (4, [0, 5, 6]), (5, [0, 5, 6, 25]), (6, [0, 5, 6]), (7, [0, 5, 6, 7]), (8, [0, 5, 6, 7, 56]), (9, [0, 5, 6]), (10, [0, 5, 59]), (11, [0, 5]), (12, [0, 5, 8, 9]), (13, [0, 5, 10]), (14, [0, 5, 10, 70]), (15, [2, 3, 4]), (16, [0, 5, 11]), (17, [0, 5, 11, 76]), (18, [2, 3, 4]), (19, [0, 5, 12]), (20, [0, 5, 12, 81]), (21, [2, 3, 4]), (22, [0, 5, 13, 14]), (23, [0, 5, 14, 15, 16]), (24, [0, 5, 15, 16, 17]), (25, [0, 5, 15, 16, 17, 102]), (26, [2, 3, 4]), (27, [2, 3, 4])],
  [(0, [0, 1]), (1, [0, 1, 12]), (2, [4]), (3, [0, 1, 6]), (4, [0, 7, 8]), (5, [0, 7, 8, 44]), (6, [0, 8]), (7, [8]), (8, [4])],
  [(0, [0, 1]), (1, [0, 1, 13]), (2, [4]), (3, [0, 1, 5]), (4, [0, 1, 5, 6, 7]), (5, [0, 1, 5, 6, 7, 30]), (6, [4]), (7, [0, 1, 5, 6, 7, 41]), (8, [4]), (9, [0, 1, 5, 6, 7, 8]), (10, [0, 1, 5, 6, 7, 8, 9]), (11, [0, 1, 5, 6, 7, 8, 9, 50]), (12, [0, 5, 8, 9]), (13, [0, 5, 8, 9, 64]), (14, [0, 5, 8, 9]), (15, [0, 5, 8, 9, 75]), (16, [0, 5, 8, 9]), (17, [0, 5, 8, 9, 82]), (18, [0, 8]), (19, [8]), (20, [4])],
  [(0, [0, 1, 2, 3, 11]), (1, [0, 1, 2, 3]), (2, [0, 1, 2, 3, 13]), (3, [0, 1, 2, 3]), (4, [0, 1, 2, 3, 8]), (5, [0, 1, 2, 3, 8, 20]), (6, [0, 1, 2, 3, 8]), (7, [0, 1, 2, 3, 8, 9]), (8, [0, 1, 2, 3, 8, 9, 32]), (9, [0, 1, 2, 3, 8]), (10, [0, 1, 2, 3, 8, 9, 63]), (11, [0, 1, 2, 3, 8]), (12, [])],
  [(0, [0, 1]), (1, [0, 1, 17]), (2, [4]), (3, [0, 1, 5]), (4, [0, 1, 5, 24]), (5, [0, 1, 5]), (6, [0, 1, 5, 6, 7]), (7, [0, 1, 5, 6, 7, 8, 9]), (8, [0, 1, 5, 64]), (9, [4]), (10, [4])],
  [(0, [0]), (1, [2])],
  [(0, [0]), (1, [0, 4]), (2, [2]), (3, [2])],
  [(0, [0, 1]), (1, [5]), (2, [4])],
  [(0, [0, 1, 2, 3]), (1, [0, 1, 2, 3, 10, 11]), (2, [0, 1, 2, 3, 10, 46]), (3, [8, 9]), (4, [0, 1, 2, 3, 10, 12]), (5, [0, 1, 3, 10, 12, 63]), (6, [8, 9]), (7, [0, 1, 3, 10, 12, 13]), (8, [0, 1, 3, 10, 12, 13, 14]), (9, [0, 1, 3, 10, 12, 13, 14, 67]), (10, [0, 1, 3, 10, 12, 13, 14]), (11, [0, 1, 3, 10, 12, 13, 14, 15]), (12, [0, 1, 3, 10, 12, 13, 14]), (13, [3, 10, 12, 13, 17]), (14, [3, 10, 13, 17]), (15, [8, 9])],
  [(0, [0, 1]), (1, [4])],
  [(0, [0]), (1, [0, 7]), (2, [0]), (3, [0, 15]), (4, [0]), (5, [2])],
  [(0, [0]), (1, [2])],
  [(0, [0]), (1, [0, 4]), (2, [2]), (3, [2])],
  [(0, [0]), (1, [0, 7]), (2, [2]), (3, [0, 3]), (4, [3, 11, 12, 13]), (5, [3, 11, 12, 13, 14]), (6, [3, 5, 11, 12, 13]), (7, [3, 11, 12, 13]), (8, [3, 11, 12, 13]), (9, [2])],
  [(0, [0, 1, 2]), (1, [0, 1, 2, 22]), (2, [6]), (3, [0, 1, 2, 33]), (4, []), (5, [6]), (6, [0, 1, 2, 41]), (7, [0, 1, 2]), (8, []), (9, [6])],
  [(0, [0]), (1, [0, 14]), (2, []), (3, [2]), (4, [0, 22]), (5, [0]), (6, [0, 3]), (7, [0, 3, 36]), (8, [0, 3]), (9, [0, 3]), (10, []), (11, [2])],
  [(0, [0, 1]), (1, [0, 1, 11]), (2, [4]), (3, [4])],
  [(0, [0, 1]), (1, [0, 1, 17]), (2, [4]), (3, [0, 1, 5]), (4, [0, 1, 5, 6]), (5, [0, 1, 5, 6, 32]), (6, [0, 1, 5, 6]), (7, [0, 1, 5, 6, 44]), (8, [0, 1, 5, 6]), (9, [4])],
  [(0, [0]), (1, [2])],
  [(0, [0]), (1, [0, 3]), (2, [0, 3, 9]), (3, [0, 3, 9, 10]), (4, [0, 3, 4, 9]), (5, [0, 3, 4, 5, 9]), (6, [0, 3, 4, 5, 7, 9]), (7, [0, 3, 5, 7, 9, 32]), (8, [0, 3, 5, 7, 8, 9]), (9, [0, 3, 7, 9, 49]), (10, [0, 3, 9]), (11, [0, 3, 9]), (12, [2])],
  [(0, [0]), (1, [0, 3, 4]), (2, [0, 5]), (3, [0, 5, 16]), (4, [2]), (5, [2])],
  [(0, [0, 1]), (1, [1, 6]), (2, [4, 6]), (3, [4, 5])],
  [(0, [0]), (1, [2])],
  [(0, [0]), (1, [0, 3]), (2, [0, 3, 4]), (3, [0, 3, 4, 9]), (4, [0, 3, 4]), (5, [0, 3, 4]), (6, [0, 3, 4, 5]), (7, [0, 3, 4, 5, 20]), (8, [0, 3, 4, 5]), (9, [0, 3, 4, 5, 25]), (10, [0, 3, 4, 5]), (11, [0, 3, 4, 5]), (12, [2])],
  [(0, [0]), (1, [0, 3]), (2, [2]), (3, [6]), (4, [2]), (5, [2])],
  [(0, [0, 1]), (1, [1]), (2, [4])],
  [(0, [0, 1]), (1, [0, 5]), (2, [0, 5, 13]), (3, [4]), (4, [4])],
  [(0, [0]), (1, [3]), (2, [2])],
  [(0, [0, 1]), (1, [1, 6]), (2, [6, 16]), (3, [4, 5]), (4, [4, 5])],
  [(0, [0, 1, 2, 3, 4]), (1, [0, 1, 2, 3, 4, 32]), (2, [10, 11]), (3, [0, 1, 2, 12]), (4, [0, 1, 12, 50]), (5, [10, 11]), (6, [0, 1, 12, 13]), (7, [0, 1, 12, 13, 54]), (8, [0, 1, 12, 13]), (9, [0, 1, 12, 13, 14]), (10, [0, 1, 12, 13, 14, 67]), (11, [10, 11]), (12, [0, 1, 12, 15]), (13, [0, 1, 12, 15, 72]), (14, [10, 11]), (15, [0, 1, 12, 16]), (16, [0, 1, 12, 16, 81]), (17, [10, 11]), (18, [1, 12, 17]), (19, [1, 12, 17, 86]), (20, [10, 11]), (21, [10, 11])],
  [(0, [0, 1]), (1, [4])],
  [(0, [0]), (1, [0, 3]), (2, [3, 7, 8, 9]), (3, [3, 7, 8, 9, 10]), (4, [3, 5, 7, 8, 9]), (5, [3, 7, 8, 9]), (6, [3, 7, 8, 9, 17]), (7, [3, 7, 8, 9, 17, 18]), (8, [3, 6, 7, 8, 9, 17]), (9, [3, 7, 8, 9, 17]), (10, [3, 7, 8, 9, 17]), (11, [3, 7, 8, 9]), (12, [2])],
  [(0, [0]), (1, [0, 3]), (2, [3, 10, 11, 12]), (3, [3, 10, 11, 12, 13]), (4, [3, 5, 10, 11, 12]), (5, [3, 10, 11, 12]), (6, [3, 10, 11, 12]), (7, [2])],
  [(0, [0, 1]), (1, [4])],
  [(0, [0, 1]), (1, [0, 1, 9]), (2, [4]), (3, [0, 1, 15]), (4, [4]), (5, [0, 1, 5]), (6, [0, 1, 5, 6]), (7, [0, 1, 5, 6, 25]), (8, [4]), (9, [0, 1, 5, 6]), (10, [0, 1, 5])],
  [(0, [0]), (1, [3]), (2, [2])],
  [(0, [0]), (1, [5, 6, 7]), (2, [5, 6, 7, 8]), (3, [4, 5, 6, 7]), (4, [5, 6, 7, 12]), (5, [2]), (6, [5, 6, 7]), (7, [2])],
  [(0, [0]), (1, [0, 3]), (2, [0, 3, 4]), (3, [0, 3, 4, 10]), (4, [0, 3, 4]), (5, [0, 3, 4, 5]), (6, [0, 3, 4, 18]), (7, [2]), (8, [2])],
  [],
  [(0, [0, 1]), (1, [0, 1, 5]), (2, [0, 1, 5, 22]), (3, [4]), (4, [0, 1, 5, 25]), (5, [4]), (6, [0, 1, 5, 33]), (7, [40]), (8, [4]), (9, [4]), (10, [0, 1, 5, 41]), (11, [4]), (12, [0, 1, 5, 46]), (13, [0, 1, 5, 52]), (14, [4]), (15, [0, 1, 5, 6]), (16, [0, 1, 5, 6, 7]), (17, [0, 1, 5, 6, 7, 8]), (18, [0, 1, 5, 6, 7, 8, 9]), (19, [0, 1, 5, 6, 7, 8, 9, 10]), (20, [0, 1, 5, 6, 7, 8, 9, 10, 69]), (21, [0, 1, 5, 6, 7, 8, 9, 10, 75]), (22, [0, 1, 5, 6, 7, 8, 9, 10, 11]), (23, [0, 1, 5, 6, 7, 8, 9, 10, 11, 84]), (24, [4]), (25, [0, 1, 5, 6, 7, 8, 9, 10]), (26, [0, 1, 5, 6, 7, 8, 9, 10, 105]), (27, [4]), (28, [0, 1, 5, 6, 7, 8, 9, 10]), (29, [0, 1, 5, 6, 7, 8, 9, 10]), (30, [0, 1, 5, 6, 7, 8, 9, 10, 114]), (31, [8, 12]), (32, [8, 12, 121]), (33, [4]), (34, [4]), (35, [4]), (36, [0, 1, 5, 13]), (37, [0, 1, 5, 13, 14]), (38, [0, 1, 5, 13, 14, 15]), (39, [0, 1, 5, 13, 14, 15, 16]), (40, [0, 1, 5, 13, 14, 15, 16, 17]), (41, [0, 1, 5, 13, 14, 15, 16, 17, 138]), (42, [0, 1, 5, 13, 14, 15, 16, 17, 144]), (43, [0, 1, 5, 13, 14, 15, 16, 17, 18]), (44, [0, 1, 5, 13, 14, 15, 16, 17, 18, 153]), (45, [0, 1, 5, 13, 14, 15, 16, 17]), (46, [0, 1, 5, 13, 14, 15, 16, 17, 174]), (47, [4]), (48, [0, 1, 5, 13, 14, 15, 16, 17]), (49, [0, 1, 5, 13, 14, 15, 16, 17]), (50, [0, 1, 5, 13, 14, 15, 16, 17, 189]), (51, [15, 19]), (52, [15, 19, 196]), (53, [4]), (54, [4]), (55, [4])],
  [(0, [0, 2]), (1, [2, 4]), (2, [2, 4, 6]), (3, [2, 4]), (4, [2])],
  [(0, [0, 1]), (1, [4])],
  [],
  [(0, [0]), (1, [2])],
  [(0, [0, 1]), (1, [0, 1, 5, 6]), (2, [0, 1, 5, 6, 7]), (3, [0, 1, 5, 6, 7, 8]), (4, [0, 1, 5, 6, 7, 8, 9]), (5, [0, 1, 5, 6, 7, 8, 9, 20]), (6, [0, 1, 5, 6, 7, 8, 9]), (7, [0, 1, 5, 6, 7, 8, 9]), (8, [0, 1, 5, 6, 7, 8, 42]), (9, [4]), (10, [0, 1, 5, 6, 7, 8, 10]), (11, [0, 1, 5, 6, 7, 8, 10, 47]), (12, [0, 1, 5, 6, 7, 8, 10]), (13, [0, 1, 5, 6, 7, 8, 10]), (14, [0, 1, 5, 6, 7, 8, 10]), (15, [0, 1, 5, 6, 7, 8, 10]), (16, [0, 1, 5, 6, 7, 8, 10, 84]), (17, [4]), (18, [4])],
  [],
  [(0, [0]), (1, [0, 4]), (2, [0, 4, 5]), (3, [0, 4, 5, 12]), (4, [0, 4, 5]), (5, [0, 4, 5]), (6, [0, 4, 6, 7]), (7, [4, 6, 7, 8]), (8, [4, 6, 7, 8, 26]), (9, [4, 6, 7, 8]), (10, [4, 6, 7, 8, 31]), (11, [4, 6, 7, 8]), (12, [4, 6, 7, 8]), (13, [2, 3])]]
def C0 : Cfg := ⟨tab, annOfL annL, keepOfL keepL, fun g => g == 78⟩
theorem cnt_ok : CntOk Try.prog C0 := by
  refine ⟨fun g hg => ?_⟩
  have hg' : g = 78 := by simpa [C0] using hg
  subst hg'
  exact ⟨Try.f78, by kernel_rfl, by kernel_rfl, by kernel_rfl, by kernel_rfl, by kernel_rfl⟩
theorem e78 : E0 78 = none := by kernel_rfl
@[reducible] def RR (O : Nat → Array Oper) (f nt i : Nat) (dr : Bool) (l : List (Nat × AV)) (t : (β : Type) → CallF → Bool → (Ex → List AV → Heap → Option β) → Heap → Option β) : Prop :=
  ∀ (β : Type) (call : CallF) (md : Bool) (n : Nat) (k : Ex → List AV → Heap → Option β) (h : Heap), runK C0 call md f n (.region i (O i) dr) k (st nt l) h = t β call md k h
theorem RRd {O : Nat → Array Oper} {f nt i : Nat} {l : List (Nat × AV)} {t : (β : Type) → CallF → Bool → (Ex → List AV → Heap → Option β) → Heap → Option β} (h1 : drawOk C0 f (O i).toList (masks (O i).toList []) (O i) = true) (h2 : pairsOf C0 f (O i).toList (masks (O i).toList []) = [])
    (h3 : ∀ (β : Type) (call : CallF) (md : Bool) (k : Ex → List AV → Heap → Option β) (h : Heap), opsK C0 call md f (O i) (O i).toList (st nt l) h (fun tm h => k .normal (clr (C0.keep f i) tm) h) = t β call md k h) : RR O f nt i true l t :=
  fun β call md n k h => (runK_draw C0 call md f n i (O i) k (st nt l) h).trans ((regK_draw C0 call md f h1 h2 (st nt l) h _).trans (h3 β call md k h))
theorem RRp {O : Nat → Array Oper} {f nt i : Nat} {l : List (Nat × AV)} {t : (β : Type) → CallF → Bool → (Ex → List AV → Heap → Option β) → Heap → Option β} (ps : List (Nat × Nat)) (h1 : drawOk C0 f (O i).toList (masks (O i).toList []) (O i) = true) (h2 : pairsOf C0 f (O i).toList (masks (O i).toList []) = ps)
    (h3 : ∀ (β : Type) (call : CallF) (md : Bool) (k : Ex → List AV → Heap → Option β) (h : Heap), trcK C0 call md f (O i) (O i).toList (st nt l) h [] (fun tr tm h => chkK C0 (O i) (O i).toList tr h ps (k .normal (clr (C0.keep f i) tm) h)) = t β call md k h) : RR O f nt i true l t :=
  fun β call md n k h => (runK_draw C0 call md f n i (O i) k (st nt l) h).trans ((regK_pairs C0 call md f h1 h2 (st nt l) h _).trans (h3 β call md k h))
theorem call_ok (k : Nat) : CallOk Try.prog tab (exFn C0 E0 k) := exFn_sound tab_fits Try.checked.mixed rfl E0_ok cnt_ok k
end Go.Ax

namespace Go.Ax
open Go
@[simp] theorem td0 : Tab.d tab 0 = .tuple := by kernel_rfl
@[simp] theorem tu0 : Tab.und tab 0 = 0 := by kernel_rfl
@[simp] theorem ts0 : Tab.size tab 0 = 1 := by kernel_rfl
@[simp] theorem tb0 : Tab.bytes tab 0 = 0 := by kernel_rfl
@[simp] theorem td1 : Tab.d tab 1 = .func := by kernel_rfl
@[simp] theorem tu1 : Tab.und tab 1 = 1 := by kernel_rfl
@[simp] theorem ts1 : Tab.size tab 1 = 1 := by kernel_rfl
@[simp] theorem tb1 : Tab.bytes tab 1 = 8 := by kernel_rfl
@[simp] theorem tz1 : zero tab 1 = some .nilf := by kernel_rfl
@[simp] theorem td2 : Tab.d tab 2 = (.int .i64) := by kernel_rfl
@[simp] theorem tu2 : Tab.und tab 2 = 2 := by kernel_rfl
@[simp] theorem ts2 : Tab.size tab 2 = 1 := by kernel_rfl
@[simp] theorem tb2 : Tab.bytes tab 2 = 8 := by kernel_rfl
@[simp] theorem tz2 : zero tab 2 = some (.int .i64 0) := by kernel_rfl
@[simp] theorem td3 : Tab.d tab 3 = (.int .i64) := by kernel_rfl
@[simp] theorem tu3 : Tab.und tab 3 = 3 := by kernel_rfl
@[simp] theorem ts3 : Tab.size tab 3 = 1 := by kernel_rfl
@[simp] theorem tb3 : Tab.bytes tab 3 = 8 := by kernel_rfl
@[simp] theorem tz3 : zero tab 3 = some (.int .i64 0) := by kernel_rfl
@[simp] theorem td4 : Tab.d tab 4 = .bool := by kernel_rfl
@[simp] theorem tu4 : Tab.und tab 4 = 4 := by kernel_rfl
@[simp] theorem ts4 : Tab.size tab 4 = 1 := by kernel_rfl
@[simp] theorem tb4 : Tab.bytes tab 4 = 1 := by kernel_rfl
@[simp] theorem tz4 : zero tab 4 = some (.bool false) := by kernel_rfl
@[simp] theorem td5 : Tab.d tab 5 = (.int .u8) := by kernel_rfl
@[simp] theorem tu5 : Tab.und tab 5 = 5 := by kernel_rfl
@[simp] theorem ts5 : Tab.size tab 5 = 1 := by kernel_rfl
@[simp] theorem tb5 : Tab.bytes tab 5 = 1 := by kernel_rfl
@[simp] theorem tz5 : zero tab 5 = some (.int .u8 0) := by kernel_rfl
@[simp] theorem td6 : Tab.d tab 6 = (.int .u8) := by kernel_rfl
@[simp] theorem tu6 : Tab.und tab 6 = 5 := by kernel_rfl
@[simp] theorem ts6 : Tab.size tab 6 = 1 := by kernel_rfl
@[simp] theorem tb6 : Tab.bytes tab 6 = 1 := by kernel_rfl
@[simp] theorem tz6 : zero tab 6 = some (.int .u8 0) := by kernel_rfl
@[simp] theorem td7 : Tab.d tab 7 = (.struct [2, 3, 4, 6]) := by kernel_rfl
@[simp] theorem tu7 : Tab.und tab 7 = 7 := by kernel_rfl
@[simp] theorem ts7 : Tab.size tab 7 = 4 := by kernel_rfl
@[simp] theorem tb7 : Tab.bytes tab 7 = 24 := by kernel_rfl
@[simp] theorem tz7 : zero tab 7 = some (.agg 7 [(.int .i64 0), (.int .i64 0), (.bool false), (.int .u8 0)]) := by kernel_rfl
@[simp] theorem td8 : Tab.d tab 8 = (.struct [2, 3, 4, 6]) := by kernel_rfl
@[simp] theorem tu8 : Tab.und tab 8 = 7 := by kernel_rfl
@[simp] theorem ts8 : Tab.size tab 8 = 4 := by kernel_rfl
@[simp] theorem tb8 : Tab.bytes tab 8 = 24 := by kernel_rfl
@[simp] theorem tz8 : zero tab 8 = some (.agg 7 [(.int .i64 0), (.int .i64 0), (.bool false), (.int .u8 0)]) := by kernel_rfl
@[simp] theorem td9 : Tab.d tab 9 = .str := by kernel_rfl
@[simp] theorem tu9 : Tab.und tab 9 = 9 := by kernel_rfl
@[simp] theorem ts9 : Tab.size tab 9 = 1 := by kernel_rfl
@[simp] theorem tb9 : Tab.bytes tab 9 = 16 := by kernel_rfl
@[simp] theorem tz9 : zero tab 9 = some (.str .empty) := by kernel_rfl
@[simp] theorem td10 : Tab.d tab 10 = .str := by kernel_rfl
@[simp] theorem tu10 : Tab.und tab 10 = 9 := by kernel_rfl
@[simp] theorem ts10 : Tab.size tab 10 = 1 := by kernel_rfl
@[simp] theorem tb10 : Tab.bytes tab 10 = 16 := by kernel_rfl
@[simp] theorem tz10 : zero tab 10 = some (.str .empty) := by kernel_rfl
@[simp] theorem td11 : Tab.d tab 11 = .str := by kernel_rfl
@[simp] theorem tu11 : Tab.und tab 11 = 9 := by kernel_rfl
@[simp] theorem ts11 : Tab.size tab 11 = 1 := by kernel_rfl
@[simp] theorem tb11 : Tab.bytes tab 11 = 16 := by kernel_rfl
@[simp] theorem tz11 : zero tab 11 = some (.str .empty) := by kernel_rfl
@[simp] theorem td12 : Tab.d tab 12 = (.int .u64) := by kernel_rfl
@[simp] theorem tu12 : Tab.und tab 12 = 12 := by kernel_rfl
@[simp] theorem ts12 : Tab.size tab 12 = 1 := by kernel_rfl
@[simp] theorem tb12 : Tab.bytes tab 12 = 8 := by kernel_rfl
@[simp] theorem tz12 : zero tab 12 = some (.int .u64 0) := by kernel_rfl
@[simp] theorem td13 : Tab.d tab 13 = (.struct [9, 12]) := by kernel_rfl
@[simp] theorem tu13 : Tab.und tab 13 = 13 := by kernel_rfl
@[simp] theorem ts13 : Tab.size tab 13 = 2 := by kernel_rfl
@[simp] theorem tb13 : Tab.bytes tab 13 = 24 := by kernel_rfl
@[simp] theorem tz13 : zero tab 13 = some (.agg 13 [(.str .empty), (.int .u64 0)]) := by kernel_rfl
@[simp] theorem td14 : Tab.d tab 14 = (.struct [9, 12]) := by kernel_rfl
@[simp] theorem tu14 : Tab.und tab 14 = 13 := by kernel_rfl
@[simp] theorem ts14 : Tab.size tab 14 = 2 := by kernel_rfl
@[simp] theorem tb14 : Tab.bytes tab 14 = 24 := by kernel_rfl
@[simp] theorem tz14 : zero tab 14 = some (.agg 13 [(.str .empty), (.int .u64 0)]) := by kernel_rfl
@[simp] theorem td15 : Tab.d tab 15 = (.ptr 121) := by kernel_rfl
@[simp] theorem tu15 : Tab.und tab 15 = 15 := by kernel_rfl
@[simp] theorem ts15 : Tab.size tab 15 = 1 := by kernel_rfl
@[simp] theorem tb15 : Tab.bytes tab 15 = 8 := by kernel_rfl
@[simp] theorem tz15 : zero tab 15 = some .nilp := by kernel_rfl
@[simp] theorem td16 : Tab.d tab 16 = (.ptr 124) := by kernel_rfl
@[simp] theorem tu16 : Tab.und tab 16 = 16 := by kernel_rfl
@[simp] theorem ts16 : Tab.size tab 16 = 1 := by kernel_rfl
@[simp] theorem tb16 : Tab.bytes tab 16 = 8 := by kernel_rfl
@[simp] theorem tz16 : zero tab 16 = some .nilp := by kernel_rfl
@[simp] theorem td17 : Tab.d tab 17 = (.ptr 132) := by kernel_rfl
@[simp] theorem tu17 : Tab.und tab 17 = 17 := by kernel_rfl
@[simp] theorem ts17 : Tab.size tab 17 = 1 := by kernel_rfl
@[simp] theorem tb17 : Tab.bytes tab 17 = 8 := by kernel_rfl
@[simp] theorem tz17 : zero tab 17 = some .nilp := by kernel_rfl
@[simp] theorem td18 : Tab.d tab 18 = (.struct [17]) := by kernel_rfl
@[simp] theorem tu18 : Tab.und tab 18 = 18 := by kernel_rfl
@[simp] theorem ts18 : Tab.size tab 18 = 1 := by kernel_rfl
@[simp] theorem tb18 : Tab.bytes tab 18 = 8 := by kernel_rfl
@[simp] theorem tz18 : zero tab 18 = some (.agg 18 [.nilp]) := by kernel_rfl
@[simp] theorem td19 : Tab.d tab 19 = (.struct [17]) := by kernel_rfl
@[simp] theorem tu19 : Tab.und tab 19 = 18 := by kernel_rfl
@[simp] theorem ts19 : Tab.size tab 19 = 1 := by kernel_rfl
@[simp] theorem tb19 : Tab.bytes tab 19 = 8 := by kernel_rfl
@[simp] theorem tz19 : zero tab 19 = some (.agg 18 [.nilp]) := by kernel_rfl
@[simp] theorem td20 : Tab.d tab 20 = .iface := by kernel_rfl
@[simp] theorem tu20 : Tab.und tab 20 = 20 := by kernel_rfl
@[simp] theorem ts20 : Tab.size tab 20 = 1 := by kernel_rfl
@[simp] theorem tb20 : Tab.bytes tab 20 = 16 := by kernel_rfl
@[simp] theorem tz20 : zero tab 20 = some .nili := by kernel_rfl
@[simp] theorem td21 : Tab.d tab 21 = (.int .i32) := by kernel_rfl
@[simp] theorem tu21 : Tab.und tab 21 = 21 := by kernel_rfl
@[simp] theorem ts21 : Tab.size tab 21 = 1 := by kernel_rfl
@[simp] theorem tb21 : Tab.bytes tab 21 = 4 := by kernel_rfl
@[simp] theorem tz21 : zero tab 21 = some (.int .i32 0) := by kernel_rfl
@[simp] theorem td22 : Tab.d tab 22 = (.slice 5) := by kernel_rfl
@[simp] theorem tu22 : Tab.und tab 22 = 22 := by kernel_rfl
@[simp] theorem ts22 : Tab.size tab 22 = 1 := by kernel_rfl
@[simp] theorem tb22 : Tab.bytes tab 22 = 24 := by kernel_rfl
@[simp] theorem tz22 : zero tab 22 = some .nils := by kernel_rfl
@[simp] theorem td23 : Tab.d tab 23 = (.int .u16) := by kernel_rfl
@[simp] theorem tu23 : Tab.und tab 23 = 23 := by kernel_rfl
@[simp] theorem ts23 : Tab.size tab 23 = 1 := by kernel_rfl
@[simp] theorem tb23 : Tab.bytes tab 23 = 2 := by kernel_rfl
@[simp] theorem tz23 : zero tab 23 = some (.int .u16 0) := by kernel_rfl
@[simp] theorem td24 : Tab.d tab 24 = .func := by kernel_rfl
@[simp] theorem tu24 : Tab.und tab 24 = 24 := by kernel_rfl
@[simp] theorem ts24 : Tab.size tab 24 = 1 := by kernel_rfl
@[simp] theorem tb24 : Tab.bytes tab 24 = 8 := by kernel_rfl
@[simp] theorem tz24 : zero tab 24 = some .nilf := by kernel_rfl
@[simp] theorem td25 : Tab.d tab 25 = (.ptr 84) := by kernel_rfl
@[simp] theorem tu25 : Tab.und tab 25 = 25 := by kernel_rfl
@[simp] theorem ts25 : Tab.size tab 25 = 1 := by kernel_rfl
@[simp] theorem tb25 : Tab.bytes tab 25 = 8 := by kernel_rfl
@[simp] theorem tz25 : zero tab 25 = some .nilp := by kernel_rfl
@[simp] theorem td26 : Tab.d tab 26 = .func := by kernel_rfl
@[simp] theorem tu26 : Tab.und tab 26 = 26 := by kernel_rfl
@[simp] theorem ts26 : Tab.size tab 26 = 1 := by kernel_rfl
@[simp] theorem tb26 : Tab.bytes tab 26 = 8 := by kernel_rfl
@[simp] theorem tz26 : zero tab 26 = some .nilf := by kernel_rfl
@[simp] theorem td27 : Tab.d tab 27 = (.int .i64) := by kernel_rfl
@[simp] theorem tu27 : Tab.und tab 27 = 3 := by kernel_rfl
@[simp] theorem ts27 : Tab.size tab 27 = 1 := by kernel_rfl
@[simp] theorem tb27 : Tab.bytes tab 27 = 8 := by kernel_rfl
@[simp] theorem tz27 : zero tab 27 = some (.int .i64 0) := by kernel_rfl
@[simp] theorem td28 : Tab.d tab 28 = .tuple := by kernel_rfl
@[simp] theorem tu28 : Tab.und tab 28 = 28 := by kernel_rfl
@[simp] theorem ts28 : Tab.size tab 28 = 1 := by kernel_rfl
@[simp] theorem tb28 : Tab.bytes tab 28 = 0 := by kernel_rfl
@[simp] theorem td29 : Tab.d tab 29 = .func := by kernel_rfl
@[simp] theorem tu29 : Tab.und tab 29 = 29 := by kernel_rfl
@[simp] theorem ts29 : Tab.size tab 29 = 1 := by kernel_rfl
@[simp] theorem tb29 : Tab.bytes tab 29 = 8 := by kernel_rfl
@[simp] theorem tz29 : zero tab 29 = some .nilf := by kernel_rfl
@[simp] theorem td30 : Tab.d tab 30 = (.slice 22) := by kernel_rfl
@[simp] theorem tu30 : Tab.und tab 30 = 30 := by kernel_rfl
@[simp] theorem ts30 : Tab.size tab 30 = 1 := by kernel_rfl
@[simp] theorem tb30 : Tab.bytes tab 30 = 24 := by kernel_rfl
@[simp] theorem tz30 : zero tab 30 = some .nils := by kernel_rfl
@[simp] theorem td31 : Tab.d tab 31 = .tuple := by kernel_rfl
@[simp] theorem tu31 : Tab.und tab 31 = 31 := by kernel_rfl
@[simp] theorem ts31 : Tab.size tab 31 = 1 := by kernel_rfl
@[simp] theorem tb31 : Tab.bytes tab 31 = 0 := by kernel_rfl
@[simp] theorem td32 : Tab.d tab 32 = .func := by kernel_rfl
@[simp] theorem tu32 : Tab.und tab 32 = 32 := by kernel_rfl
@[simp] theorem ts32 : Tab.size tab 32 = 1 := by kernel_rfl
@[simp] theorem tb32 : Tab.bytes tab 32 = 8 := by kernel_rfl
@[simp] theorem tz32 : zero tab 32 = some .nilf := by kernel_rfl
@[simp] theorem td33 : Tab.d tab 33 = .func := by kernel_rfl
@[simp] theorem tu33 : Tab.und tab 33 = 33 := by kernel_rfl
@[simp] theorem ts33 : Tab.size tab 33 = 1 := by kernel_rfl
@[simp] theorem tb33 : Tab.bytes tab 33 = 8 := by kernel_rfl
@[simp] theorem tz33 : zero tab 33 = some .nilf := by kernel_rfl
@[simp] theorem td34 : Tab.d tab 34 = .func := by kernel_rfl
@[simp] theorem tu34 : Tab.und tab 34 = 34 := by kernel_rfl
@[simp] theorem ts34 : Tab.size tab 34 = 1 := by kernel_rfl
@[simp] theorem tb34 : Tab.bytes tab 34 = 8 := by kernel_rfl
@[simp] theorem tz34 : zero tab 34 = some .nilf := by kernel_rfl
@[simp] theorem td35 : Tab.d tab 35 = .func := by kernel_rfl
@[simp] theorem tu35 : Tab.und tab 35 = 35 := by kernel_rfl
@[simp] theorem ts35 : Tab.size tab 35 = 1 := by kernel_rfl
@[simp] theorem tb35 : Tab.bytes tab 35 = 8 := by kernel_rfl
@[simp] theorem tz35 : zero tab 35 = some .nilf := by kernel_rfl
@[simp] theorem td36 : Tab.d tab 36 = .func := by kernel_rfl
@[simp] theorem tu36 : Tab.und tab 36 = 36 := by kernel_rfl
@[simp] theorem ts36 : Tab.size tab 36 = 1 := by kernel_rfl
@[simp] theorem tb36 : Tab.bytes tab 36 = 8 := by kernel_rfl
@[simp] theorem tz36 : zero tab 36 = some .nilf := by kernel_rfl
@[simp] theorem td37 : Tab.d tab 37 = .func := by kernel_rfl
@[simp] theorem tu37 : Tab.und tab 37 = 37 := by kernel_rfl
@[simp] theorem ts37 : Tab.size tab 37 = 1 := by kernel_rfl
@[simp] theorem tb37 : Tab.bytes tab 37 = 8 := by kernel_rfl
@[simp] theorem tz37 : zero tab 37 = some .nilf := by kernel_rfl
@[simp] theorem td38 : Tab.d tab 38 = .tuple := by kernel_rfl
@[simp] theorem tu38 : Tab.und tab 38 = 38 := by kernel_rfl
@[simp] theorem ts38 : Tab.size tab 38 = 1 := by kernel_rfl
@[simp] theorem tb38 : Tab.bytes tab 38 = 0 := by kernel_rfl
@[simp] theorem td39 : Tab.d tab 39 = .func := by kernel_rfl
@[simp] theorem tu39 : Tab.und tab 39 = 39 := by kernel_rfl
@[simp] theorem ts39 : Tab.size tab 39 = 1 := by kernel_rfl
@[simp] theorem tb39 : Tab.bytes tab 39 = 8 := by kernel_rfl
@[simp] theorem tz39 : zero tab 39 = some .nilf := by kernel_rfl
@[simp] theorem td40 : Tab.d tab 40 = .func := by kernel_rfl
@[simp] theorem tu40 : Tab.und tab 40 = 40 := by kernel_rfl
@[simp] theorem ts40 : Tab.size tab 40 = 1 := by kernel_rfl
@[simp] theorem tb40 : Tab.bytes tab 40 = 8 := by kernel_rfl
@[simp] theorem tz40 : zero tab 40 = some .nilf := by kernel_rfl
@[simp] theorem td41 : Tab.d tab 41 = .func := by kernel_rfl
@[simp] theorem tu41 : Tab.und tab 41 = 41 := by kernel_rfl
@[simp] theorem ts41 : Tab.size tab 41 = 1 := by kernel_rfl
@[simp] theorem tb41 : Tab.bytes tab 41 = 8 := by kernel_rfl
@[simp] theorem tz41 : zero tab 41 = some .nilf := by kernel_rfl
@[simp] theorem td42 : Tab.d tab 42 = .func := by kernel_rfl
@[simp] theorem tu42 : Tab.und tab 42 = 42 := by kernel_rfl
@[simp] theorem ts42 : Tab.size tab 42 = 1 := by kernel_rfl
@[simp] theorem tb42 : Tab.bytes tab 42 = 8 := by kernel_rfl
@[simp] theorem tz42 : zero tab 42 = some .nilf := by kernel_rfl
@[simp] theorem td43 : Tab.d tab 43 = .func := by kernel_rfl
@[simp] theorem tu43 : Tab.und tab 43 = 43 := by kernel_rfl
@[simp] theorem ts43 : Tab.size tab 43 = 1 := by kernel_rfl
@[simp] theorem tb43 : Tab.bytes tab 43 = 8 := by kernel_rfl
@[simp] theorem tz43 : zero tab 43 = some .nilf := by kernel_rfl
@[simp] theorem td44 : Tab.d tab 44 = (.int .u64) := by kernel_rfl
@[simp] theorem tu44 : Tab.und tab 44 = 44 := by kernel_rfl
@[simp] theorem ts44 : Tab.size tab 44 = 1 := by kernel_rfl
@[simp] theorem tb44 : Tab.bytes tab 44 = 8 := by kernel_rfl
@[simp] theorem tz44 : zero tab 44 = some (.int .u64 0) := by kernel_rfl
@[simp] theorem td45 : Tab.d tab 45 = .func := by kernel_rfl
@[simp] theorem tu45 : Tab.und tab 45 = 45 := by kernel_rfl
@[simp] theorem ts45 : Tab.size tab 45 = 1 := by kernel_rfl
@[simp] theorem tb45 : Tab.bytes tab 45 = 8 := by kernel_rfl
@[simp] theorem tz45 : zero tab 45 = some .nilf := by kernel_rfl
@[simp] theorem td46 : Tab.d tab 46 = .func := by kernel_rfl
@[simp] theorem tu46 : Tab.und tab 46 = 46 := by kernel_rfl
@[simp] theorem ts46 : Tab.size tab 46 = 1 := by kernel_rfl
@[simp] theorem tb46 : Tab.bytes tab 46 = 8 := by kernel_rfl
@[simp] theorem tz46 : zero tab 46 = some .nilf := by kernel_rfl
@[simp] theorem td47 : Tab.d tab 47 = .func := by kernel_rfl
@[simp] theorem tu47 : Tab.und tab 47 = 47 := by kernel_rfl
@[simp] theorem ts47 : Tab.size tab 47 = 1 := by kernel_rfl
@[simp] theorem tb47 : Tab.bytes tab 47 = 8 := by kernel_rfl
@[simp] theorem tz47 : zero tab 47 = some .nilf := by kernel_rfl
@[simp] theorem td48 : Tab.d tab 48 = (.slice 96) := by kernel_rfl
@[simp] theorem tu48 : Tab.und tab 48 = 48 := by kernel_rfl
@[simp] theorem ts48 : Tab.size tab 48 = 1 := by kernel_rfl
@[simp] theorem tb48 : Tab.bytes tab 48 = 24 := by kernel_rfl
@[simp] theorem tz48 : zero tab 48 = some .nils := by kernel_rfl
@[simp] theorem td49 : Tab.d tab 49 = .func := by kernel_rfl
@[simp] theorem tu49 : Tab.und tab 49 = 49 := by kernel_rfl
@[simp] theorem ts49 : Tab.size tab 49 = 1 := by kernel_rfl
@[simp] theorem tb49 : Tab.bytes tab 49 = 8 := by kernel_rfl
@[simp] theorem tz49 : zero tab 49 = some .nilf := by kernel_rfl
@[simp] theorem td50 : Tab.d tab 50 = (.ptr 74) := by kernel_rfl
@[simp] theorem tu50 : Tab.und tab 50 = 50 := by kernel_rfl
@[simp] theorem ts50 : Tab.size tab 50 = 1 := by kernel_rfl
@[simp] theorem tb50 : Tab.bytes tab 50 = 8 := by kernel_rfl
@[simp] theorem tz50 : zero tab 50 = some .nilp := by kernel_rfl
@[simp] theorem td51 : Tab.d tab 51 = .tuple := by kernel_rfl
@[simp] theorem tu51 : Tab.und tab 51 = 51 := by kernel_rfl
@[simp] theorem ts51 : Tab.size tab 51 = 1 := by kernel_rfl
@[simp] theorem tb51 : Tab.bytes tab 51 = 0 := by kernel_rfl
@[simp] theorem td52 : Tab.d tab 52 = .func := by kernel_rfl
@[simp] theorem tu52 : Tab.und tab 52 = 52 := by kernel_rfl
@[simp] theorem ts52 : Tab.size tab 52 = 1 := by kernel_rfl
@[simp] theorem tb52 : Tab.bytes tab 52 = 8 := by kernel_rfl
@[simp] theorem tz52 : zero tab 52 = some .nilf := by kernel_rfl
@[simp] theorem td53 : Tab.d tab 53 = .func := by kernel_rfl
@[simp] theorem tu53 : Tab.und tab 53 = 53 := by kernel_rfl
@[simp] theorem ts53 : Tab.size tab 53 = 1 := by kernel_rfl
@[simp] theorem tb53 : Tab.bytes tab 53 = 8 := by kernel_rfl
@[simp] theorem tz53 : zero tab 53 = some .nilf := by kernel_rfl
@[simp] theorem td54 : Tab.d tab 54 = .func := by kernel_rfl
@[simp] theorem tu54 : Tab.und tab 54 = 54 := by kernel_rfl
@[simp] theorem ts54 : Tab.size tab 54 = 1 := by kernel_rfl
@[simp] theorem tb54 : Tab.bytes tab 54 = 8 := by kernel_rfl
@[simp] theorem tz54 : zero tab 54 = some .nilf := by kernel_rfl
@[simp] theorem td55 : Tab.d tab 55 = .func := by kernel_rfl
@[simp] theorem tu55 : Tab.und tab 55 = 55 := by kernel_rfl
@[simp] theorem ts55 : Tab.size tab 55 = 1 := by kernel_rfl
@[simp] theorem tb55 : Tab.bytes tab 55 = 8 := by kernel_rfl
@[simp] theorem tz55 : zero tab 55 = some .nilf := by kernel_rfl
@[simp] theorem td56 : Tab.d tab 56 = .func := by kernel_rfl
@[simp] theorem tu56 : Tab.und tab 56 = 56 := by kernel_rfl
@[simp] theorem ts56 : Tab.size tab 56 = 1 := by kernel_rfl
@[simp] theorem tb56 : Tab.bytes tab 56 = 8 := by kernel_rfl
@[simp] theorem tz56 : zero tab 56 = some .nilf := by kernel_rfl
@[simp] theorem td57 : Tab.d tab 57 = (.ptr 104) := by kernel_rfl
@[simp] theorem tu57 : Tab.und tab 57 = 57 := by kernel_rfl
@[simp] theorem ts57 : Tab.size tab 57 = 1 := by kernel_rfl
@[simp] theorem tb57 : Tab.bytes tab 57 = 8 := by kernel_rfl
@[simp] theorem tz57 : zero tab 57 = some .nilp := by kernel_rfl
@[simp] theorem td58 : Tab.d tab 58 = .tuple := by kernel_rfl
@[simp] theorem tu58 : Tab.und tab 58 = 58 := by kernel_rfl
@[simp] theorem ts58 : Tab.size tab 58 = 1 := by kernel_rfl
@[simp] theorem tb58 : Tab.bytes tab 58 = 0 := by kernel_rfl
@[simp] theorem td59 : Tab.d tab 59 = .func := by kernel_rfl
@[simp] theorem tu59 : Tab.und tab 59 = 59 := by kernel_rfl
@[simp] theorem ts59 : Tab.size tab 59 = 1 := by kernel_rfl
@[simp] theorem tb59 : Tab.bytes tab 59 = 8 := by kernel_rfl
@[simp] theorem tz59 : zero tab 59 = some .nilf := by kernel_rfl
@[simp] theorem td60 : Tab.d tab 60 = .func := by kernel_rfl
@[simp] theorem tu60 : Tab.und tab 60 = 60 := by kernel_rfl
@[simp] theorem ts60 : Tab.size tab 60 = 1 := by kernel_rfl
@[simp] theorem tb60 : Tab.bytes tab 60 = 8 := by kernel_rfl
@[simp] theorem tz60 : zero tab 60 = some .nilf := by kernel_rfl
@[simp] theorem td61 : Tab.d tab 61 = .func := by kernel_rfl
@[simp] theorem tu61 : Tab.und tab 61 = 61 := by kernel_rfl
@[simp] theorem ts61 : Tab.size tab 61 = 1 := by kernel_rfl
@[simp] theorem tb61 : Tab.bytes tab 61 = 8 := by kernel_rfl
@[simp] theorem tz61 : zero tab 61 = some .nilf := by kernel_rfl
@[simp] theorem td62 : Tab.d tab 62 = .func := by kernel_rfl
@[simp] theorem tu62 : Tab.und tab 62 = 62 := by kernel_rfl
@[simp] theorem ts62 : Tab.size tab 62 = 1 := by kernel_rfl
@[simp] theorem tb62 : Tab.bytes tab 62 = 8 := by kernel_rfl
@[simp] theorem tz62 : zero tab 62 = some .nilf := by kernel_rfl
@[simp] theorem td63 : Tab.d tab 63 = .func := by kernel_rfl
@[simp] theorem tu63 : Tab.und tab 63 = 63 := by kernel_rfl
@[simp] theorem ts63 : Tab.size tab 63 = 1 := by kernel_rfl
@[simp] theorem tb63 : Tab.bytes tab 63 = 8 := by kernel_rfl
@[simp] theorem tz63 : zero tab 63 = some .nilf := by kernel_rfl
@[simp] theorem td64 : Tab.d tab 64 = .func := by kernel_rfl
@[simp] theorem tu64 : Tab.und tab 64 = 64 := by kernel_rfl
@[simp] theorem ts64 : Tab.size tab 64 = 1 := by kernel_rfl
@[simp] theorem tb64 : Tab.bytes tab 64 = 8 := by kernel_rfl
@[simp] theorem tz64 : zero tab 64 = some .nilf := by kernel_rfl
@[simp] theorem td65 : Tab.d tab 65 = (.slice 71) := by kernel_rfl
@[simp] theorem tu65 : Tab.und tab 65 = 65 := by kernel_rfl
@[simp] theorem ts65 : Tab.size tab 65 = 1 := by kernel_rfl
@[simp] theorem tb65 : Tab.bytes tab 65 = 24 := by kernel_rfl
@[simp] theorem tz65 : zero tab 65 = some .nils := by kernel_rfl
@[simp] theorem td66 : Tab.d tab 66 = .func := by kernel_rfl
@[simp] theorem tu66 : Tab.und tab 66 = 66 := by kernel_rfl
@[simp] theorem ts66 : Tab.size tab 66 = 1 := by kernel_rfl
@[simp] theorem tb66 : Tab.bytes tab 66 = 8 := by kernel_rfl
@[simp] theorem tz66 : zero tab 66 = some .nilf := by kernel_rfl
@[simp] theorem td67 : Tab.d tab 67 = (.ptr 76) := by kernel_rfl
@[simp] theorem tu67 : Tab.und tab 67 = 67 := by kernel_rfl
@[simp] theorem ts67 : Tab.size tab 67 = 1 := by kernel_rfl
@[simp] theorem tb67 : Tab.bytes tab 67 = 8 := by kernel_rfl
@[simp] theorem tz67 : zero tab 67 = some .nilp := by kernel_rfl
@[simp] theorem td68 : Tab.d tab 68 = .tuple := by kernel_rfl
@[simp] theorem tu68 : Tab.und tab 68 = 68 := by kernel_rfl
@[simp] theorem ts68 : Tab.size tab 68 = 1 := by kernel_rfl
@[simp] theorem tb68 : Tab.bytes tab 68 = 0 := by kernel_rfl
@[simp] theorem td69 : Tab.d tab 69 = .func := by kernel_rfl
@[simp] theorem tu69 : Tab.und tab 69 = 69 := by kernel_rfl
@[simp] theorem ts69 : Tab.size tab 69 = 1 := by kernel_rfl
@[simp] theorem tb69 : Tab.bytes tab 69 = 8 := by kernel_rfl
@[simp] theorem tz69 : zero tab 69 = some .nilf := by kernel_rfl
@[simp] theorem td70 : Tab.d tab 70 = (.struct [3, 3, 3, 22, 44]) := by kernel_rfl
@[simp] theorem tu70 : Tab.und tab 70 = 70 := by kernel_rfl
@[simp] theorem ts70 : Tab.size tab 70 = 5 := by kernel_rfl
@[simp] theorem tb70 : Tab.bytes tab 70 = 56 := by kernel_rfl
@[simp] theorem tz70 : zero tab 70 = some (.agg 70 [(.int .i64 0), (.int .i64 0), (.int .i64 0), .nils, (.int .u64 0)]) := by kernel_rfl
@[simp] theorem td71 : Tab.d tab 71 = (.struct [3, 3, 3, 22, 44]) := by kernel_rfl
@[simp] theorem tu71 : Tab.und tab 71 = 70 := by kernel_rfl
@[simp] theorem ts71 : Tab.size tab 71 = 5 := by kernel_rfl
@[simp] theorem tb71 : Tab.bytes tab 71 = 56 := by kernel_rfl
@[simp] theorem tz71 : zero tab 71 = some (.agg 70 [(.int .i64 0), (.int .i64 0), (.int .i64 0), .nils, (.int .u64 0)]) := by kernel_rfl
@[simp] theorem td72 : Tab.d tab 72 = (.slice 112) := by kernel_rfl
@[simp] theorem tu72 : Tab.und tab 72 = 72 := by kernel_rfl
@[simp] theorem ts72 : Tab.size tab 72 = 1 := by kernel_rfl
@[simp] theorem tb72 : Tab.bytes tab 72 = 24 := by kernel_rfl
@[simp] theorem tz72 : zero tab 72 = some .nils := by kernel_rfl
@[simp] theorem td73 : Tab.d tab 73 = (.struct [30, 72, 3, 4]) := by kernel_rfl
@[simp] theorem tu73 : Tab.und tab 73 = 73 := by kernel_rfl
@[simp] theorem ts73 : Tab.size tab 73 = 4 := by kernel_rfl
@[simp] theorem tb73 : Tab.bytes tab 73 = 64 := by kernel_rfl
@[simp] theorem tz73 : zero tab 73 = some (.agg 73 [.nils, .nils, (.int .i64 0), (.bool false)]) := by kernel_rfl
@[simp] theorem td74 : Tab.d tab 74 = (.struct [30, 72, 3, 4]) := by kernel_rfl
@[simp] theorem tu74 : Tab.und tab 74 = 73 := by kernel_rfl
@[simp] theorem ts74 : Tab.size tab 74 = 4 := by kernel_rfl
@[simp] theorem tb74 : Tab.bytes tab 74 = 64 := by kernel_rfl
@[simp] theorem tz74 : zero tab 74 = some (.agg 73 [.nils, .nils, (.int .i64 0), (.bool false)]) := by kernel_rfl
@[simp] theorem td75 : Tab.d tab 75 = (.struct [50, 3, 3, 4]) := by kernel_rfl
@[simp] theorem tu75 : Tab.und tab 75 = 75 := by kernel_rfl
@[simp] theorem ts75 : Tab.size tab 75 = 4 := by kernel_rfl
@[simp] theorem tb75 : Tab.bytes tab 75 = 32 := by kernel_rfl
@[simp] theorem tz75 : zero tab 75 = some (.agg 75 [.nilp, (.int .i64 0), (.int .i64 0), (.bool false)]) := by kernel_rfl
@[simp] theorem td76 : Tab.d tab 76 = (.struct [50, 3, 3, 4]) := by kernel_rfl
@[simp] theorem tu76 : Tab.und tab 76 = 75 := by kernel_rfl
@[simp] theorem ts76 : Tab.size tab 76 = 4 := by kernel_rfl
@[simp] theorem tb76 : Tab.bytes tab 76 = 32 := by kernel_rfl
@[simp] theorem tz76 : zero tab 76 = some (.agg 75 [.nilp, (.int .i64 0), (.int .i64 0), (.bool false)]) := by kernel_rfl
@[simp] theorem td77 : Tab.d tab 77 = .func := by kernel_rfl
@[simp] theorem tu77 : Tab.und tab 77 = 77 := by kernel_rfl
@[simp] theorem ts77 : Tab.size tab 77 = 1 := by kernel_rfl
@[simp] theorem tb77 : Tab.bytes tab 77 = 8 := by kernel_rfl
@[simp] theorem tz77 : zero tab 77 = some .nilf := by kernel_rfl
@[simp] theorem td78 : Tab.d tab 78 = (.int .u64) := by kernel_rfl
@[simp] theorem tu78 : Tab.und tab 78 = 78 := by kernel_rfl
@[simp] theorem ts78 : Tab.size tab 78 = 1 := by kernel_rfl
@[simp] theorem tb78 : Tab.bytes tab 78 = 8 := by kernel_rfl
@[simp] theorem tz78 : zero tab 78 = some (.int .u64 0) := by kernel_rfl
@[simp] theorem td79 : Tab.d tab 79 = .func := by kernel_rfl
@[simp] theorem tu79 : Tab.und tab 79 = 79 := by kernel_rfl
@[simp] theorem ts79 : Tab.size tab 79 = 1 := by kernel_rfl
@[simp] theorem tb79 : Tab.bytes tab 79 = 8 := by kernel_rfl
@[simp] theorem tz79 : zero tab 79 = some .nilf := by kernel_rfl
@[simp] theorem td80 : Tab.d tab 80 = .func := by kernel_rfl
@[simp] theorem tu80 : Tab.und tab 80 = 80 := by kernel_rfl
@[simp] theorem ts80 : Tab.size tab 80 = 1 := by kernel_rfl
@[simp] theorem tb80 : Tab.bytes tab 80 = 8 := by kernel_rfl
@[simp] theorem tz80 : zero tab 80 = some .nilf := by kernel_rfl
@[simp] theorem td81 : Tab.d tab 81 = (.slice 89) := by kernel_rfl
@[simp] theorem tu81 : Tab.und tab 81 = 81 := by kernel_rfl
@[simp] theorem ts81 : Tab.size tab 81 = 1 := by kernel_rfl
@[simp] theorem tb81 : Tab.bytes tab 81 = 24 := by kernel_rfl
@[simp] theorem tz81 : zero tab 81 = some .nils := by kernel_rfl
@[simp] theorem td82 : Tab.d tab 82 = (.slice 91) := by kernel_rfl
@[simp] theorem tu82 : Tab.und tab 82 = 82 := by kernel_rfl
@[simp] theorem ts82 : Tab.size tab 82 = 1 := by kernel_rfl
@[simp] theorem tb82 : Tab.bytes tab 82 = 24 := by kernel_rfl
@[simp] theorem tz82 : zero tab 82 = some .nils := by kernel_rfl
@[simp] theorem td83 : Tab.d tab 83 = (.struct [81, 82, 3, 4]) := by kernel_rfl
@[simp] theorem tu83 : Tab.und tab 83 = 83 := by kernel_rfl
@[simp] theorem ts83 : Tab.size tab 83 = 4 := by kernel_rfl
@[simp] theorem tb83 : Tab.bytes tab 83 = 64 := by kernel_rfl
@[simp] theorem tz83 : zero tab 83 = some (.agg 83 [.nils, .nils, (.int .i64 0), (.bool false)]) := by kernel_rfl
@[simp] theorem td84 : Tab.d tab 84 = (.struct [81, 82, 3, 4]) := by kernel_rfl
@[simp] theorem tu84 : Tab.und tab 84 = 83 := by kernel_rfl
@[simp] theorem ts84 : Tab.size tab 84 = 4 := by kernel_rfl
@[simp] theorem tb84 : Tab.bytes tab 84 = 64 := by kernel_rfl
@[simp] theorem tz84 : zero tab 84 = some (.agg 83 [.nils, .nils, (.int .i64 0), (.bool false)]) := by kernel_rfl
@[simp] theorem td85 : Tab.d tab 85 = .func := by kernel_rfl
@[simp] theorem tu85 : Tab.und tab 85 = 85 := by kernel_rfl
@[simp] theorem ts85 : Tab.size tab 85 = 1 := by kernel_rfl
@[simp] theorem tb85 : Tab.bytes tab 85 = 8 := by kernel_rfl
@[simp] theorem tz85 : zero tab 85 = some .nilf := by kernel_rfl
@[simp] theorem td86 : Tab.d tab 86 = .tuple := by kernel_rfl
@[simp] theorem tu86 : Tab.und tab 86 = 86 := by kernel_rfl
@[simp] theorem ts86 : Tab.size tab 86 = 1 := by kernel_rfl
@[simp] theorem tb86 : Tab.bytes tab 86 = 0 := by kernel_rfl
@[simp] theorem td87 : Tab.d tab 87 = .func := by kernel_rfl
@[simp] theorem tu87 : Tab.und tab 87 = 87 := by kernel_rfl
@[simp] theorem ts87 : Tab.size tab 87 = 1 := by kernel_rfl
@[simp] theorem tb87 : Tab.bytes tab 87 = 8 := by kernel_rfl
@[simp] theorem tz87 : zero tab 87 = some .nilf := by kernel_rfl
@[simp] theorem td88 : Tab.d tab 88 = (.arr 64 5) := by kernel_rfl
@[simp] theorem tu88 : Tab.und tab 88 = 88 := by kernel_rfl
@[simp] theorem ts88 : Tab.size tab 88 = 64 := by kernel_rfl
@[simp] theorem tb88 : Tab.bytes tab 88 = 64 := by kernel_rfl
@[simp] theorem tz88 : zero tab 88 = some (.agg 88 (List.replicate 64 (.int .u8 0))) := by kernel_rfl
@[simp] theorem td89 : Tab.d tab 89 = (.arr 64 5) := by kernel_rfl
@[simp] theorem tu89 : Tab.und tab 89 = 88 := by kernel_rfl
@[simp] theorem ts89 : Tab.size tab 89 = 64 := by kernel_rfl
@[simp] theorem tb89 : Tab.bytes tab 89 = 64 := by kernel_rfl
@[simp] theorem tz89 : zero tab 89 = some (.agg 88 (List.replicate 64 (.int .u8 0))) := by kernel_rfl
@[simp] theorem td90 : Tab.d tab 90 = (.struct [3, 89]) := by kernel_rfl
@[simp] theorem tu90 : Tab.und tab 90 = 90 := by kernel_rfl
@[simp] theorem ts90 : Tab.size tab 90 = 65 := by kernel_rfl
@[simp] theorem tb90 : Tab.bytes tab 90 = 72 := by kernel_rfl
@[simp] theorem tz90 : zero tab 90 = some (.agg 90 [(.int .i64 0), (.agg 88 (List.replicate 64 (.int .u8 0)))]) := by kernel_rfl
@[simp] theorem td91 : Tab.d tab 91 = (.struct [3, 89]) := by kernel_rfl
@[simp] theorem tu91 : Tab.und tab 91 = 90 := by kernel_rfl
@[simp] theorem ts91 : Tab.size tab 91 = 65 := by kernel_rfl
@[simp] theorem tb91 : Tab.bytes tab 91 = 72 := by kernel_rfl
@[simp] theorem tz91 : zero tab 91 = some (.agg 90 [(.int .i64 0), (.agg 88 (List.replicate 64 (.int .u8 0)))]) := by kernel_rfl
@[simp] theorem td92 : Tab.d tab 92 = .func := by kernel_rfl
@[simp] theorem tu92 : Tab.und tab 92 = 92 := by kernel_rfl
@[simp] theorem ts92 : Tab.size tab 92 = 1 := by kernel_rfl
@[simp] theorem tb92 : Tab.bytes tab 92 = 8 := by kernel_rfl
@[simp] theorem tz92 : zero tab 92 = some .nilf := by kernel_rfl
@[simp] theorem td93 : Tab.d tab 93 = (.slice 3) := by kernel_rfl
@[simp] theorem tu93 : Tab.und tab 93 = 93 := by kernel_rfl
@[simp] theorem ts93 : Tab.size tab 93 = 1 := by kernel_rfl
@[simp] theorem tb93 : Tab.bytes tab 93 = 24 := by kernel_rfl
@[simp] theorem tz93 : zero tab 93 = some .nils := by kernel_rfl
@[simp] theorem td94 : Tab.d tab 94 = .func := by kernel_rfl
@[simp] theorem tu94 : Tab.und tab 94 = 94 := by kernel_rfl
@[simp] theorem ts94 : Tab.size tab 94 = 1 := by kernel_rfl
@[simp] theorem tb94 : Tab.bytes tab 94 = 8 := by kernel_rfl
@[simp] theorem tz94 : zero tab 94 = some .nilf := by kernel_rfl
@[simp] theorem td95 : Tab.d tab 95 = (.struct [3, 3, 3, 22, 44]) := by kernel_rfl
@[simp] theorem tu95 : Tab.und tab 95 = 95 := by kernel_rfl
@[simp] theorem ts95 : Tab.size tab 95 = 5 := by kernel_rfl
@[simp] theorem tb95 : Tab.bytes tab 95 = 56 := by kernel_rfl
@[simp] theorem tz95 : zero tab 95 = some (.agg 95 [(.int .i64 0), (.int .i64 0), (.int .i64 0), .nils, (.int .u64 0)]) := by kernel_rfl
@[simp] theorem td96 : Tab.d tab 96 = (.struct [3, 3, 3, 22, 44]) := by kernel_rfl
@[simp] theorem tu96 : Tab.und tab 96 = 95 := by kernel_rfl
@[simp] theorem ts96 : Tab.size tab 96 = 5 := by kernel_rfl
@[simp] theorem tb96 : Tab.bytes tab 96 = 56 := by kernel_rfl
@[simp] theorem tz96 : zero tab 96 = some (.agg 95 [(.int .i64 0), (.int .i64 0), (.int .i64 0), .nils, (.int .u64 0)]) := by kernel_rfl
@[simp] theorem td97 : Tab.d tab 97 = .func := by kernel_rfl
@[simp] theorem tu97 : Tab.und tab 97 = 97 := by kernel_rfl
@[simp] theorem ts97 : Tab.size tab 97 = 1 := by kernel_rfl
@[simp] theorem tb97 : Tab.bytes tab 97 = 8 := by kernel_rfl
@[simp] theorem tz97 : zero tab 97 = some .nilf := by kernel_rfl
@[simp] theorem td98 : Tab.d tab 98 = .func := by kernel_rfl
@[simp] theorem tu98 : Tab.und tab 98 = 98 := by kernel_rfl
@[simp] theorem ts98 : Tab.size tab 98 = 1 := by kernel_rfl
@[simp] theorem tb98 : Tab.bytes tab 98 = 8 := by kernel_rfl
@[simp] theorem tz98 : zero tab 98 = some .nilf := by kernel_rfl
@[simp] theorem td99 : Tab.d tab 99 = .func := by kernel_rfl
@[simp] theorem tu99 : Tab.und tab 99 = 99 := by kernel_rfl
@[simp] theorem ts99 : Tab.size tab 99 = 1 := by kernel_rfl
@[simp] theorem tb99 : Tab.bytes tab 99 = 8 := by kernel_rfl
@[simp] theorem tz99 : zero tab 99 = some .nilf := by kernel_rfl
@[simp] theorem td100 : Tab.d tab 100 = .func := by kernel_rfl
@[simp] theorem tu100 : Tab.und tab 100 = 100 := by kernel_rfl
@[simp] theorem ts100 : Tab.size tab 100 = 1 := by kernel_rfl
@[simp] theorem tb100 : Tab.bytes tab 100 = 8 := by kernel_rfl
@[simp] theorem tz100 : zero tab 100 = some .nilf := by kernel_rfl
@[simp] theorem td101 : Tab.d tab 101 = .tuple := by kernel_rfl
@[simp] theorem tu101 : Tab.und tab 101 = 101 := by kernel_rfl
@[simp] theorem ts101 : Tab.size tab 101 = 1 := by kernel_rfl
@[simp] theorem tb101 : Tab.bytes tab 101 = 0 := by kernel_rfl
@[simp] theorem td102 : Tab.d tab 102 = .func := by kernel_rfl
@[simp] theorem tu102 : Tab.und tab 102 = 102 := by kernel_rfl
@[simp] theorem ts102 : Tab.size tab 102 = 1 := by kernel_rfl
@[simp] theorem tb102 : Tab.bytes tab 102 = 8 := by kernel_rfl
@[simp] theorem tz102 : zero tab 102 = some .nilf := by kernel_rfl
@[simp] theorem td103 : Tab.d tab 103 = (.struct [25, 3, 3, 4]) := by kernel_rfl
@[simp] theorem tu103 : Tab.und tab 103 = 103 := by kernel_rfl
@[simp] theorem ts103 : Tab.size tab 103 = 4 := by kernel_rfl
@[simp] theorem tb103 : Tab.bytes tab 103 = 32 := by kernel_rfl
@[simp] theorem tz103 : zero tab 103 = some (.agg 103 [.nilp, (.int .i64 0), (.int .i64 0), (.bool false)]) := by kernel_rfl
@[simp] theorem td104 : Tab.d tab 104 = (.struct [25, 3, 3, 4]) := by kernel_rfl
@[simp] theorem tu104 : Tab.und tab 104 = 103 := by kernel_rfl
@[simp] theorem ts104 : Tab.size tab 104 = 4 := by kernel_rfl
@[simp] theorem tb104 : Tab.bytes tab 104 = 32 := by kernel_rfl
@[simp] theorem tz104 : zero tab 104 = some (.agg 103 [.nilp, (.int .i64 0), (.int .i64 0), (.bool false)]) := by kernel_rfl
@[simp] theorem td105 : Tab.d tab 105 = (.int .u32) := by kernel_rfl
@[simp] theorem tu105 : Tab.und tab 105 = 105 := by kernel_rfl
@[simp] theorem ts105 : Tab.size tab 105 = 1 := by kernel_rfl
@[simp] theorem tb105 : Tab.bytes tab 105 = 4 := by kernel_rfl
@[simp] theorem tz105 : zero tab 105 = some (.int .u32 0) := by kernel_rfl
@[simp] theorem td106 : Tab.d tab 106 = .func := by kernel_rfl
@[simp] theorem tu106 : Tab.und tab 106 = 106 := by kernel_rfl
@[simp] theorem ts106 : Tab.size tab 106 = 1 := by kernel_rfl
@[simp] theorem tb106 : Tab.bytes tab 106 = 8 := by kernel_rfl
@[simp] theorem tz106 : zero tab 106 = some .nilf := by kernel_rfl
@[simp] theorem td107 : Tab.d tab 107 = .func := by kernel_rfl
@[simp] theorem tu107 : Tab.und tab 107 = 107 := by kernel_rfl
@[simp] theorem ts107 : Tab.size tab 107 = 1 := by kernel_rfl
@[simp] theorem tb107 : Tab.bytes tab 107 = 8 := by kernel_rfl
@[simp] theorem tz107 : zero tab 107 = some .nilf := by kernel_rfl
@[simp] theorem td108 : Tab.d tab 108 = .func := by kernel_rfl
@[simp] theorem tu108 : Tab.und tab 108 = 108 := by kernel_rfl
@[simp] theorem ts108 : Tab.size tab 108 = 1 := by kernel_rfl
@[simp] theorem tb108 : Tab.bytes tab 108 = 8 := by kernel_rfl
@[simp] theorem tz108 : zero tab 108 = some .nilf := by kernel_rfl
@[simp] theorem td109 : Tab.d tab 109 = .func := by kernel_rfl
@[simp] theorem tu109 : Tab.und tab 109 = 109 := by kernel_rfl
@[simp] theorem ts109 : Tab.size tab 109 = 1 := by kernel_rfl
@[simp] theorem tb109 : Tab.bytes tab 109 = 8 := by kernel_rfl
@[simp] theorem tz109 : zero tab 109 = some .nilf := by kernel_rfl
@[simp] theorem td110 : Tab.d tab 110 = .func := by kernel_rfl
@[simp] theorem tu110 : Tab.und tab 110 = 110 := by kernel_rfl
@[simp] theorem ts110 : Tab.size tab 110 = 1 := by kernel_rfl
@[simp] theorem tb110 : Tab.bytes tab 110 = 8 := by kernel_rfl
@[simp] theorem tz110 : zero tab 110 = some .nilf := by kernel_rfl
@[simp] theorem td111 : Tab.d tab 111 = (.struct [3, 22]) := by kernel_rfl
@[simp] theorem tu111 : Tab.und tab 111 = 111 := by kernel_rfl
@[simp] theorem ts111 : Tab.size tab 111 = 2 := by kernel_rfl
@[simp] theorem tb111 : Tab.bytes tab 111 = 32 := by kernel_rfl
@[simp] theorem tz111 : zero tab 111 = some (.agg 111 [(.int .i64 0), .nils]) := by kernel_rfl
@[simp] theorem td112 : Tab.d tab 112 = (.struct [3, 22]) := by kernel_rfl
@[simp] theorem tu112 : Tab.und tab 112 = 111 := by kernel_rfl
@[simp] theorem ts112 : Tab.size tab 112 = 2 := by kernel_rfl
@[simp] theorem tb112 : Tab.bytes tab 112 = 32 := by kernel_rfl
@[simp] theorem tz112 : zero tab 112 = some (.agg 111 [(.int .i64 0), .nils]) := by kernel_rfl
@[simp] theorem td113 : Tab.d tab 113 = .func := by kernel_rfl
@[simp] theorem tu113 : Tab.und tab 113 = 113 := by kernel_rfl
@[simp] theorem ts113 : Tab.size tab 113 = 1 := by kernel_rfl
@[simp] theorem tb113 : Tab.bytes tab 113 = 8 := by kernel_rfl
@[simp] theorem tz113 : zero tab 113 = some .nilf := by kernel_rfl
@[simp] theorem td114 : Tab.d tab 114 = .func := by kernel_rfl
@[simp] theorem tu114 : Tab.und tab 114 = 114 := by kernel_rfl
@[simp] theorem ts114 : Tab.size tab 114 = 1 := by kernel_rfl
@[simp] theorem tb114 : Tab.bytes tab 114 = 8 := by kernel_rfl
@[simp] theorem tz114 : zero tab 114 = some .nilf := by kernel_rfl
@[simp] theorem td115 : Tab.d tab 115 = .func := by kernel_rfl
@[simp] theorem tu115 : Tab.und tab 115 = 115 := by kernel_rfl
@[simp] theorem ts115 : Tab.size tab 115 = 1 := by kernel_rfl
@[simp] theorem tb115 : Tab.bytes tab 115 = 8 := by kernel_rfl
@[simp] theorem tz115 : zero tab 115 = some .nilf := by kernel_rfl
@[simp] theorem td116 : Tab.d tab 116 = .func := by kernel_rfl
@[simp] theorem tu116 : Tab.und tab 116 = 116 := by kernel_rfl
@[simp] theorem ts116 : Tab.size tab 116 = 1 := by kernel_rfl
@[simp] theorem tb116 : Tab.bytes tab 116 = 8 := by kernel_rfl
@[simp] theorem tz116 : zero tab 116 = some .nilf := by kernel_rfl
@[simp] theorem td117 : Tab.d tab 117 = .tuple := by kernel_rfl
@[simp] theorem tu117 : Tab.und tab 117 = 117 := by kernel_rfl
@[simp] theorem ts117 : Tab.size tab 117 = 1 := by kernel_rfl
@[simp] theorem tb117 : Tab.bytes tab 117 = 0 := by kernel_rfl
@[simp] theorem td118 : Tab.d tab 118 = .func := by kernel_rfl
@[simp] theorem tu118 : Tab.und tab 118 = 118 := by kernel_rfl
@[simp] theorem ts118 : Tab.size tab 118 = 1 := by kernel_rfl
@[simp] theorem tb118 : Tab.bytes tab 118 = 8 := by kernel_rfl
@[simp] theorem tz118 : zero tab 118 = some .nilf := by kernel_rfl
@[simp] theorem td119 : Tab.d tab 119 = .func := by kernel_rfl
@[simp] theorem tu119 : Tab.und tab 119 = 119 := by kernel_rfl
@[simp] theorem ts119 : Tab.size tab 119 = 1 := by kernel_rfl
@[simp] theorem tb119 : Tab.bytes tab 119 = 8 := by kernel_rfl
@[simp] theorem tz119 : zero tab 119 = some .nilf := by kernel_rfl
@[simp] theorem td120 : Tab.d tab 120 = (.struct [17, 17, 17, 9]) := by kernel_rfl
@[simp] theorem tu120 : Tab.und tab 120 = 120 := by kernel_rfl
@[simp] theorem ts120 : Tab.size tab 120 = 4 := by kernel_rfl
@[simp] theorem tb120 : Tab.bytes tab 120 = 40 := by kernel_rfl
@[simp] theorem tz120 : zero tab 120 = some (.agg 120 [.nilp, .nilp, .nilp, (.str .empty)]) := by kernel_rfl
@[simp] theorem td121 : Tab.d tab 121 = (.struct [17, 17, 17, 9]) := by kernel_rfl
@[simp] theorem tu121 : Tab.und tab 121 = 120 := by kernel_rfl
@[simp] theorem ts121 : Tab.size tab 121 = 4 := by kernel_rfl
@[simp] theorem tb121 : Tab.bytes tab 121 = 40 := by kernel_rfl
@[simp] theorem tz121 : zero tab 121 = some (.agg 120 [.nilp, .nilp, .nilp, (.str .empty)]) := by kernel_rfl
@[simp] theorem td122 : Tab.d tab 122 = (.arr 0 16) := by kernel_rfl
@[simp] theorem tu122 : Tab.und tab 122 = 122 := by kernel_rfl
@[simp] theorem ts122 : Tab.size tab 122 = 0 := by kernel_rfl
@[simp] theorem tb122 : Tab.bytes tab 122 = 0 := by kernel_rfl
@[simp] theorem tz122 : zero tab 122 = some (.agg 122 (List.replicate 0 .nilp)) := by kernel_rfl
@[simp] theorem td123 : Tab.d tab 123 = (.struct [122]) := by kernel_rfl
@[simp] theorem tu123 : Tab.und tab 123 = 123 := by kernel_rfl
@[simp] theorem ts123 : Tab.size tab 123 = 0 := by kernel_rfl
@[simp] theorem tb123 : Tab.bytes tab 123 = 0 := by kernel_rfl
@[simp] theorem tz123 : zero tab 123 = some (.agg 123 [(.agg 122 (List.replicate 0 .nilp))]) := by kernel_rfl
@[simp] theorem td124 : Tab.d tab 124 = (.struct [122]) := by kernel_rfl
@[simp] theorem tu124 : Tab.und tab 124 = 123 := by kernel_rfl
@[simp] theorem ts124 : Tab.size tab 124 = 0 := by kernel_rfl
@[simp] theorem tb124 : Tab.bytes tab 124 = 0 := by kernel_rfl
@[simp] theorem tz124 : zero tab 124 = some (.agg 123 [(.agg 122 (List.replicate 0 .nilp))]) := by kernel_rfl
@[simp] theorem td125 : Tab.d tab 125 = (.int .u8) := by kernel_rfl
@[simp] theorem tu125 : Tab.und tab 125 = 5 := by kernel_rfl
@[simp] theorem ts125 : Tab.size tab 125 = 1 := by kernel_rfl
@[simp] theorem tb125 : Tab.bytes tab 125 = 1 := by kernel_rfl
@[simp] theorem tz125 : zero tab 125 = some (.int .u8 0) := by kernel_rfl
@[simp] theorem td126 : Tab.d tab 126 = (.int .u8) := by kernel_rfl
@[simp] theorem tu126 : Tab.und tab 126 = 5 := by kernel_rfl
@[simp] theorem ts126 : Tab.size tab 126 = 1 := by kernel_rfl
@[simp] theorem tb126 : Tab.bytes tab 126 = 1 := by kernel_rfl
@[simp] theorem tz126 : zero tab 126 = some (.int .u8 0) := by kernel_rfl
@[simp] theorem td127 : Tab.d tab 127 = .func := by kernel_rfl
@[simp] theorem tu127 : Tab.und tab 127 = 127 := by kernel_rfl
@[simp] theorem ts127 : Tab.size tab 127 = 1 := by kernel_rfl
@[simp] theorem tb127 : Tab.bytes tab 127 = 8 := by kernel_rfl
@[simp] theorem tz127 : zero tab 127 = some .nilf := by kernel_rfl
@[simp] theorem td128 : Tab.d tab 128 = (.ptr 5) := by kernel_rfl
@[simp] theorem tu128 : Tab.und tab 128 = 128 := by kernel_rfl
@[simp] theorem ts128 : Tab.size tab 128 = 1 := by kernel_rfl
@[simp] theorem tb128 : Tab.bytes tab 128 = 8 := by kernel_rfl
@[simp] theorem tz128 : zero tab 128 = some .nilp := by kernel_rfl
@[simp] theorem td129 : Tab.d tab 129 = (.int .i32) := by kernel_rfl
@[simp] theorem tu129 : Tab.und tab 129 = 21 := by kernel_rfl
@[simp] theorem ts129 : Tab.size tab 129 = 1 := by kernel_rfl
@[simp] theorem tb129 : Tab.bytes tab 129 = 4 := by kernel_rfl
@[simp] theorem tz129 : zero tab 129 = some (.int .i32 0) := by kernel_rfl
@[simp] theorem td130 : Tab.d tab 130 = (.int .i32) := by kernel_rfl
@[simp] theorem tu130 : Tab.und tab 130 = 21 := by kernel_rfl
@[simp] theorem ts130 : Tab.size tab 130 = 1 := by kernel_rfl
@[simp] theorem tb130 : Tab.bytes tab 130 = 4 := by kernel_rfl
@[simp] theorem tz130 : zero tab 130 = some (.int .i32 0) := by kernel_rfl
@[simp] theorem td131 : Tab.d tab 131 = (.struct [12, 12, 105, 125, 5, 5, 126, 127, 128, 129, 130]) := by kernel_rfl
@[simp] theorem tu131 : Tab.und tab 131 = 131 := by kernel_rfl
@[simp] theorem ts131 : Tab.size tab 131 = 11 := by kernel_rfl
@[simp] theorem tb131 : Tab.bytes tab 131 = 48 := by kernel_rfl
@[simp] theorem tz131 : zero tab 131 = some (.agg 131 [(.int .u64 0), (.int .u64 0), (.int .u32 0), (.int .u8 0), (.int .u8 0), (.int .u8 0), (.int .u8 0), .nilf, .nilp, (.int .i32 0), (.int .i32 0)]) := by kernel_rfl
@[simp] theorem td132 : Tab.d tab 132 = (.struct [12, 12, 105, 125, 5, 5, 126, 127, 128, 129, 130]) := by kernel_rfl
@[simp] theorem tu132 : Tab.und tab 132 = 131 := by kernel_rfl
@[simp] theorem ts132 : Tab.size tab 132 = 11 := by kernel_rfl
@[simp] theorem tb132 : Tab.bytes tab 132 = 48 := by kernel_rfl
@[simp] theorem tz132 : zero tab 132 = some (.agg 131 [(.int .u64 0), (.int .u64 0), (.int .u32 0), (.int .u8 0), (.int .u8 0), (.int .u8 0), (.int .u8 0), .nilf, .nilp, (.int .i32 0), (.int .i32 0)]) := by kernel_rfl
@[simp] theorem td133 : Tab.d tab 133 = .other := by kernel_rfl
@[simp] theorem tu133 : Tab.und tab 133 = 133 := by kernel_rfl
@[simp] theorem ts133 : Tab.size tab 133 = 1 := by kernel_rfl
@[simp] theorem tb133 : Tab.bytes tab 133 = 8 := by kernel_rfl
end Go.Ax

namespace Go.Ax
open Go
def U32 (v : BitVec 32) : AV := .int .u32 (v.toNat : Int)
def U8 (v : UInt8) : AV := .int .u8 (v.toNat : Int)
variable {β : Type}
@[simp] theorem bnd_s {α : Type} (v : α) (k : α → Option β) : bnd (some v) k = k v := rfl
@[simp] theorem bnd_n {α : Type} (k : α → Option β) : bnd none k = none := rfl
@[simp] theorem bnd2_s (v : AV) (h : Heap) (k : AV → Heap → Option β) : bnd2 (some (v, h)) k = k v h := rfl
@[simp] theorem onB_t (x y : Option β) : onB (.bool true) x y = x := rfl
@[simp] theorem onB_f (x y : Option β) : onB (.bool false) x y = y := rfl
@[simp] theorem onG_tt (x y : Option β) : onG true (.bool true) x y = x := rfl
@[simp] theorem onG_tf (x y : Option β) : onG true (.bool false) x y = y := rfl
@[simp] theorem onG_ft (x y : Option β) : onG false (.bool true) x y = y := rfl
@[simp] theorem onG_ff (x y : Option β) : onG false (.bool false) x y = x := rfl
@[simp] theorem onG_s (w : Bool) (x y : Option β) : onG w .skip x y = y := rfl
@[simp] theorem gd_tt (h : Heap) (b : (AV → Heap → Option β) → Option β) (k : AV → Heap → Option β) : gd true (.bool true) h b k = b k := gd_eq ..
@[simp] theorem gd_tf (h : Heap) (b : (AV → Heap → Option β) → Option β) (k : AV → Heap → Option β) : gd true (.bool false) h b k = k .skip h := gd_eq ..
@[simp] theorem gd_ft (h : Heap) (b : (AV → Heap → Option β) → Option β) (k : AV → Heap → Option β) : gd false (.bool true) h b k = k .skip h := gd_eq ..
@[simp] theorem gd_ff (h : Heap) (b : (AV → Heap → Option β) → Option β) (k : AV → Heap → Option β) : gd false (.bool false) h b k = b k := gd_eq ..
@[simp] theorem gd_s (w : Bool) (h : Heap) (b : (AV → Heap → Option β) → Option β) (k : AV → Heap → Option β) : gd w .skip h b k = k .skip h := gd_eq ..
@[simp] theorem okG_tt (b : Bool) : okG true (.bool true) b = b := rfl
@[simp] theorem okG_tf (b : Bool) : okG true (.bool false) b = true := rfl
@[simp] theorem okG_ft (b : Bool) : okG false (.bool true) b = true := rfl
@[simp] theorem okG_ff (b : Bool) : okG false (.bool false) b = b := rfl
@[simp] theorem okG_s (w b : Bool) : okG w .skip b = true := by cases w <;> rfl
@[simp] theorem onT_t (x : Option β) : onT true x = x := rfl
@[congr] theorem bnd_congr {α : Type} {x x' : Option α} {k : α → Option β} (h : x = x') : bnd x k = bnd x' k := by rw [h]
@[congr] theorem bnd2_congr {x x' : Option (AV × Heap)} {k : AV → Heap → Option β} (h : x = x') : bnd2 x k = bnd2 x' k := by rw [h]
@[congr] theorem onB_congr {c c' : AV} {x y : Option β} (h : c = c') : onB c x y = onB c' x y := by rw [h]
@[congr] theorem onG_congr {w : Bool} {c c' : AV} {x y : Option β} (h : c = c') : onG w c x y = onG w c' x y := by rw [h]
@[congr] theorem gd_congr {w : Bool} {c c' : AV} {h : Heap} {b : (AV → Heap → Option β) → Option β} {k : AV → Heap → Option β} (e : c = c') : gd w c h b k = gd w c' h b k := by rw [e]
@[congr] theorem okG_congr {w : Bool} {c c' : AV} {b : Bool} (e : c = c') : okG w c b = okG w c' b := by rw [e]
@[congr] theorem onT_congr {c c' : Bool} {x : Option β} (h : c = c') : onT c x = onT c' x := by rw [h]
@[congr] theorem runK_congr {C : Cfg} {call : CallF} {md : Bool} {f n : Nat} {c : Code} {k : Ex → List AV → Heap → Option β} {tm tm' : List AV} {h h' : Heap} (e : tm = tm') (e' : h = h') :
    runK C call md f n c k tm h = runK C call md f n c k tm' h' := by rw [e, e']
@[congr] theorem loopK_congr {step : (List AV → Heap → Option β) → List AV → Heap → Option β} {n : Nat} {tm tm' : List AV} {h h' : Heap} (e : tm = tm') (e' : h = h') :
    loopK step n tm h = loopK step n tm' h' := by rw [e, e']
@[simp] theorem aPick_t (a b : AV) : aPick (.bool true) a b = some a := rfl
@[simp] theorem aPick_f (a b : AV) : aPick (.bool false) a b = some b := rfl
section ints
variable (T : Tab) (t : Ty) (k : IntKind) (a b : Int) (c : Bool)
@[simp] theorem bin_add : aBinC T .add t (.int k a) (.int k b) c = some (.int k (k.wrap (a + b))) := by simp [aBinC, aBin, Go.binOp, Op.intArith, ofPure, pure]
@[simp] theorem bin_sub : aBinC T .sub t (.int k a) (.int k b) c = some (.int k (k.wrap (a - b))) := by simp [aBinC, aBin, Go.binOp, Op.intArith, ofPure, pure]
@[simp] theorem bin_mul : aBinC T .mul t (.int k a) (.int k b) c = some (.int k (k.wrap (a * b))) := by simp [aBinC, aBin, Go.binOp, Op.intArith, ofPure, pure]
@[simp] theorem bin_eql : aBinC T .eql t (.int k a) (.int k b) c = some (.bool (decide (a = b))) := by simp [aBinC, aBin, Go.binOp, Op.intCmp, ofPure, pure]; rfl
@[simp] theorem bin_neq : aBinC T .neq t (.int k a) (.int k b) c = some (.bool (decide (a ≠ b))) := by simp [aBinC, aBin, Go.binOp, Op.intCmp, ofPure, pure, bne]; rfl
@[simp] theorem bin_lss : aBinC T .lss t (.int k a) (.int k b) c = some (.bool (decide (a < b))) := by simp [aBinC, aBin, Go.binOp, Op.intCmp, ofPure, pure]
@[simp] theorem bin_leq : aBinC T .leq t (.int k a) (.int k b) c = some (.bool (decide (a ≤ b))) := by simp [aBinC, aBin, Go.binOp, Op.intCmp, ofPure, pure]
@[simp] theorem bin_gtr : aBinC T .gtr t (.int k a) (.int k b) c = some (.bool (decide (b < a))) := by simp [aBinC, aBin, Go.binOp, Op.intCmp, ofPure, pure]
@[simp] theorem bin_geq : aBinC T .geq t (.int k a) (.int k b) c = some (.bool (decide (b ≤ a))) := by simp [aBinC, aBin, Go.binOp, Op.intCmp, ofPure, pure]
theorem bin_quo (hb : b ≠ 0) : aBinC T .quo t (.int k a) (.int k b) c = some (.int k (k.wrap (a.tdiv b))) := by simp [aBinC, aBin, Go.binOp, Op.intDiv, ofPure, pure, hb]
@[simp] theorem un_not (b : Bool) : aUn .not (.bool b) = some (.bool (!b)) := rfl
end ints
theorem wrap_i64 {n : Int} (h1 : -9223372036854775808 ≤ n) (h2 : n < 9223372036854775808) : IntKind.i64.wrap n = n := by
  unfold IntKind.wrap
  simp only [show IntKind.i64.bits = 64 from rfl, show IntKind.i64.signed = true from rfl, Bool.true_and]
  rcases Int.lt_or_le n 0 with h | h
  · have e : n % 2 ^ 64 = n + 18446744073709551616 := by omega
    rw [e]
    have : (decide (n + 18446744073709551616 ≥ (2 ^ (64 - 1) : Int))) = true := by simp; omega
    simp only [this, if_true]
    omega
  · have e : n % 2 ^ 64 = n := by omega
    rw [e]
    have : (decide (n ≥ (2 ^ (64 - 1) : Int))) = false := by simp; omega
    simp only [this]
    simp
theorem wrap_u32 (n : Int) : IntKind.u32.wrap n = n % 4294967296 := by
  unfold IntKind.wrap
  simp only [show IntKind.u32.bits = 32 from rfl, show IntKind.u32.signed = false from rfl, Bool.false_and]
  simp
theorem wrap_u8 (n : Int) : IntKind.u8.wrap n = n % 256 := by
  unfold IntKind.wrap
  simp only [show IntKind.u8.bits = 8 from rfl, show IntKind.u8.signed = false from rfl, Bool.false_and]
  simp
theorem wrap_u64 (n : Int) : IntKind.u64.wrap n = n % 18446744073709551616 := by
  unfold IntKind.wrap
  simp only [show IntKind.u64.bits = 64 from rfl, show IntKind.u64.signed = false from rfl, Bool.false_and]
  simp
section u32
variable (T : Tab) (t : Ty) (a b : BitVec 32) (c : Bool)
theorem u32_lit (n : Nat) (hn : n < 4294967296) : AV.int .u32 n = U32 (BitVec.ofNat 32 n) := by
  unfold U32
  rw [BitVec.toNat_ofNat, Nat.mod_eq_of_lt (by simpa using hn)]
theorem ofInt_toNat32 (a : BitVec 32) : BitVec.ofInt 32 (a.toNat : Int) = a := by simp
theorem wrap_toNat32 (r : BitVec 32) : IntKind.u32.wrap (r.toNat : Int) = r.toNat := by
  rw [wrap_u32]; have := r.isLt; omega
@[simp] theorem u32_xor : aBinC T .xor t (U32 a) (U32 b) c = some (U32 (a ^^^ b)) := by
  have e : Go.binOp .xor t (.int .u32 a.toNat) (.int .u32 b.toNat) = pure (.int .u32 (IntKind.u32.wrap ((BitVec.ofInt 32 (a.toNat : Int) ^^^ BitVec.ofInt 32 (b.toNat : Int)).toNat : Int))) := rfl
  simp only [aBinC, aBin, U32, e, ofInt_toNat32, wrap_toNat32]
  rfl
@[simp] theorem u32_and : aBinC T .and t (U32 a) (U32 b) c = some (U32 (a &&& b)) := by
  have e : Go.binOp .and t (.int .u32 a.toNat) (.int .u32 b.toNat) = pure (.int .u32 (IntKind.u32.wrap ((BitVec.ofInt 32 (a.toNat : Int) &&& BitVec.ofInt 32 (b.toNat : Int)).toNat : Int))) := rfl
  simp only [aBinC, aBin, U32, e, ofInt_toNat32, wrap_toNat32]
  rfl
@[simp] theorem u32_or : aBinC T .or t (U32 a) (U32 b) c = some (U32 (a ||| b)) := by
  have e : Go.binOp .or t (.int .u32 a.toNat) (.int .u32 b.toNat) = pure (.int .u32 (IntKind.u32.wrap ((BitVec.ofInt 32 (a.toNat : Int) ||| BitVec.ofInt 32 (b.toNat : Int)).toNat : Int))) := rfl
  simp only [aBinC, aBin, U32, e, ofInt_toNat32, wrap_toNat32]
  rfl
@[simp] theorem u32_mul : aBinC T .mul t (U32 a) (U32 b) c = some (U32 (a * b)) := by
  simp [aBinC, aBin, U32, Go.binOp, Op.intArith, ofPure, pure, wrap_u32, BitVec.toNat_mul]
theorem u32_shr (n : Nat) (hn : n ≤ 32) : aBinC T .shr t (U32 a) (.int .u64 n) c = some (U32 (a >>> n)) := by
  have e : Go.binOp .shr t (.int .u32 a.toNat) (.int .u64 n) = pure (.int .u32 ((a.toNat : Int) / 2 ^ n)) := by
    have := Go.shift_shr .u32 .u64 (a.toNat : Int) (n : Int) (by omega) (by have : IntKind.u32.bits = 32 := rfl; omega)
    rw [Int.toNat_natCast] at this
    exact this
  simp only [aBinC, aBin, U32, e, BitVec.toNat_ushiftRight, Nat.shiftRight_eq_div_pow]
  simp [ofPure, pure]
theorem u32_shl (n : Nat) (hn : n ≤ 32) : aBinC T .shl t (U32 a) (.int .u64 n) c = some (U32 (a <<< n)) := by
  have e : Go.binOp .shl t (.int .u32 a.toNat) (.int .u64 n) = pure (.int .u32 (IntKind.u32.wrap ((a.toNat : Int) * 2 ^ n))) := by
    have := Go.shift_shl .u32 .u64 (a.toNat : Int) (n : Int) (by omega) (by have : IntKind.u32.bits = 32 := rfl; omega)
    rw [Int.toNat_natCast] at this
    exact this
  simp only [aBinC, aBin, U32, e, BitVec.toNat_shiftLeft, Nat.shiftLeft_eq, wrap_u32]
  simp [ofPure, pure]
@[simp] theorem u32_eql : aBinC T .eql t (U32 a) (U32 b) c = some (.bool (decide (a = b))) := by
  simp only [U32, bin_eql, Int.natCast_inj, BitVec.toNat_inj]
@[simp] theorem u32_neq : aBinC T .neq t (U32 a) (U32 b) c = some (.bool (decide (a ≠ b))) := by
  simp only [U32, bin_neq, ne_eq, Int.natCast_inj, BitVec.toNat_inj]
@[simp] theorem u32_not : aUn .xor (U32 a) = some (U32 (~~~ a)) := by
  have e : Op.unary .xor (.int .u32 a.toNat) = pure (.int .u32 (IntKind.u32.wrap ((BitVec.ofInt 32 (4294967295 : Int) ^^^ BitVec.ofInt 32 (a.toNat : Int)).toNat : Int))) := rfl
  have e2 : BitVec.ofInt 32 (4294967295 : Int) ^^^ a = ~~~ a := by
    have : BitVec.ofInt 32 (4294967295 : Int) = BitVec.allOnes 32 := by decide
    rw [this, BitVec.allOnes_xor]
  simp only [aUn, U32, e, ofInt_toNat32, wrap_toNat32, e2]
  rfl
end u32
section conv
variable (h : Heap)
@[simp] theorem conv_8_32 (b : UInt8) : aConv tab 5 105 (U8 b) h = some (U32 (b.toBitVec.setWidth 32)) := by
  simp [aConv, U8, U32, wrap_u32]
  have := b.toNat_lt
  omega
theorem conv_32_8 (v : BitVec 32) : aConv tab 105 5 (U32 v) h = some (U8 (UInt8.ofBitVec (v.setWidth 8))) := by
  simp [aConv, U8, U32, wrap_u8]
theorem conv_64_32 (n : Int) : aConv tab 3 105 (.int .i64 n) h = some (U32 (BitVec.ofInt 32 n)) := by
  simp [aConv, U32, wrap_u32]
  omega
theorem conv_32_64 (v : BitVec 32) : aConv tab 105 3 (U32 v) h = some (.int .i64 v.toNat) := by
  simp [aConv, U32]
  have := v.isLt
  exact wrap_i64 (by omega) (by omega)
end conv
section sl
variable (e : Ty) (l : List AV) (k : Tok) (h : Heap)
@[simp] theorem len_nils22 : aLen tab 22 .nils = some (.int .i64 0) := by simp [aLen]
@[simp] theorem len22 : aLen tab 22 (.vsl e l k) = some (.int .i64 l.length) := by simp [aLen]
@[simp] theorem len30 : aLen tab 30 (.vsl e l k) = some (.int .i64 l.length) := by simp [aLen]
@[simp] theorem len_nils30 : aLen tab 30 .nils = some (.int .i64 0) := by simp [aLen]
theorem idx22 (i : Nat) (kd : IntKind) : aIndexAddr tab 22 (.vsl 5 l k) (.int kd (i : Int)) = (l[i]?).map (.vptr 5) := by
  simp [aIndexAddr]
theorem idx30 (i : Nat) (kd : IntKind) : aIndexAddr tab 30 (.vsl 22 l k) (.int kd (i : Int)) = (l[i]?).map (.vptr 22) := by
  simp [aIndexAddr]
@[simp] theorem load5 (v : AV) : aLoad tab 5 (.vptr 5 v) h = some v := by simp [aLoad]
@[simp] theorem load22 (v : AV) : aLoad tab 22 (.vptr 22 v) h = some v := by simp [aLoad]
end sl
def seqE (x : List AV → Heap → Option β) (k : Ex → List AV → Heap → Option β) : Ex → List AV → Heap → Option β
  | .normal, tm, h => x tm h
  | .exit id, tm, h => k (.exit id) tm h
  | .ret, tm, h => k .ret tm h
def blkE (id : Nat) (k : Ex → List AV → Heap → Option β) : Ex → List AV → Heap → Option β
  | .normal, tm, h => k .normal tm h
  | .exit id', tm, h => if id' = id then k .normal tm h else k (.exit id') tm h
  | .ret, tm, h => k .ret tm h
section code
variable (C : Cfg) (call : CallF) (md : Bool) (f n id i : Nat) (a b c : Code) (k : Ex → List AV → Heap → Option β) (tm : List AV) (h : Heap) (o : Operand)
@[simp] theorem runK_seq : runK C call md f n (.seq a b) k tm h = runK C call md f n a (seqE (runK C call md f n b k) k) tm h := by
  simp only [runK]; congr 1; funext ex tm h; cases ex <;> rfl
@[simp] theorem runK_cond : runK C call md f n (.cond o a b) k tm h = onB (evalA tm o) (runK C call md f n a k tm h) (runK C call md f n b k tm h) := rfl
@[simp] theorem runK_block : runK C call md f n (.block id c) k tm h = runK C call md f n c (blkE id k) tm h := by
  simp only [runK]; congr 1; funext ex tm h; cases ex <;> rfl
@[simp] theorem runK_loop : runK C call md f n (.loop c) k tm h = loopK (fun next => runK C call md f n c (seqE next k)) n tm h := by
  simp only [runK]; congr 1; funext next; congr 1; funext ex tm h; cases ex <;> rfl
@[simp] theorem runK_skip : runK C call md f n .skip k tm h = k .normal tm h := rfl
@[simp] theorem runK_ret : runK C call md f n .ret k tm h = k .ret tm h := rfl
@[simp] theorem runK_exit : runK C call md f n (.exit id) k tm h = k (.exit id) tm h := rfl
variable (x : List AV → Heap → Option β)
@[simp] theorem seqE_n : seqE x k .normal tm h = x tm h := rfl
@[simp] theorem seqE_e : seqE x k (.exit id) tm h = k (.exit id) tm h := rfl
@[simp] theorem seqE_r : seqE x k .ret tm h = k .ret tm h := rfl
@[simp] theorem blkE_n : blkE id k .normal tm h = k .normal tm h := rfl
@[simp] theorem blkE_e : blkE id k (.exit id) tm h = k .normal tm h := by simp [blkE]
@[simp] theorem blkE_r : blkE id k .ret tm h = k .ret tm h := rfl
@[simp] theorem retK_n (rs : List Nat) : retK rs .normal tm h = some (results rs tm, h) := rfl
@[simp] theorem retK_r (rs : List Nat) : retK rs .ret tm h = some (results rs tm, h) := rfl
theorem loopK_succ (step : (List AV → Heap → Option β) → List AV → Heap → Option β) (m : Nat) : loopK step (m + 1) tm h = step (loopK step m) tm h := rfl
end code
theorem st_ev (n : Nat) (l : List (Nat × AV)) (j : Nat) (v : AV) (hj : j < n) (hl : l.lookup j = some v) : evalA (st n l) (.tmp j) = v := by
  rw [st_tmp, if_pos hj, hl]; rfl
theorem results1 (n : Nat) (l : List (Nat × AV)) (j : Nat) : results [j] (st n l) = if j < n then (l.lookup j).getD .undef else .undef := st_getD n l j
theorem results2 (n : Nat) (l : List (Nat × AV)) (i j : Nat) : results [i, j] (st n l) = .tuple [if i < n then (l.lookup i).getD .undef else .undef, if j < n then (l.lookup j).getD .undef else .undef] := by
  simp only [results, List.map_cons, List.map_nil, st_getD]
def RK := And.intro @runK_seq <| And.intro @runK_cond <| And.intro @runK_block <| And.intro @runK_loop <| And.intro @runK_skip <| And.intro @runK_ret <| And.intro @runK_exit <| And.intro @seqE_n <| And.intro @seqE_e <| And.intro @seqE_r <| And.intro @blkE_n <|
  And.intro @blkE_e <| And.intro @blkE_r <| And.intro @retK_n @retK_r
def RB := And.intro @bnd_s <| And.intro @bnd2_s <| And.intro @onB_t <| And.intro @onB_f <| And.intro @onG_tt <| And.intro @onG_tf <| And.intro @onG_ft <| And.intro @onG_ff <| And.intro @onG_s <| And.intro @gd_tt <| And.intro @gd_tf <| And.intro @gd_ft <|
  And.intro @gd_ff <| And.intro @gd_s <| And.intro @okG_tt <| And.intro @okG_tf <| And.intro @okG_ft <| And.intro @okG_ff <| And.intro @okG_s <| And.intro @onT_t <| And.intro @aPick_t @aPick_f
def STs := And.intro @st_tmp <| And.intro @results1 <| And.intro @results2 <| And.intro @List.lookup_cons.{0, 0} <| And.intro @List.lookup_nil.{0, 0} <| And.intro Bool.false_eq_true <| And.intro @BEq.rfl.{0} <| And.intro @Option.getD_some.{0} @Option.getD_none.{0}
abbrev Obs := Nat → Prop
def Up (S : Obs) (h : Heap) : Prop := ∀ i, h.length ≤ i → S i
def From (n : Nat) : Obs := fun i => n ≤ i
def Keep (S : Obs) (h h' : Heap) : Prop := h.length ≤ h'.length ∧ ∀ i, ¬ S i → h'[i]? = h[i]?
theorem Keep.refl (S : Obs) (h : Heap) : Keep S h h := ⟨Nat.le_refl _, fun _ _ => rfl⟩
theorem Keep.trans {S : Obs} {h h' h'' : Heap} (a : Keep S h h') (b : Keep S h' h'') : Keep S h h'' := ⟨Nat.le_trans a.1 b.1, fun i hi => (b.2 i hi).trans (a.2 i hi)⟩
theorem Keep.mono {S U : Obs} {h h' : Heap} (a : Keep S h h') (hs : ∀ i, S i → U i) : Keep U h h' := ⟨a.1, fun i hi => a.2 i fun x => hi (hs i x)⟩
theorem Keep.app {S : Obs} (h e : Heap) (up : Up S h) : Keep S h (h ++ e) := ⟨by simp, fun i hi => List.getElem?_append_left (Nat.lt_of_not_le fun x => hi (up i x))⟩
theorem Keep.set {S : Obs} (h : Heap) {r : Nat} (ob : Obj) (hs : S r) : Keep S h (h.set r ob) := ⟨by simp, fun i hi => List.getElem?_set_ne (by rintro rfl; exact hi hs)⟩
theorem Up.keep {S U : Obs} {h h' : Heap} (a : Up S h) (k : Keep U h h') : Up S h' := fun i hi => a i (Nat.le_trans k.1 hi)
theorem Up.fresh (h : Heap) : Up (From h.length) h := fun _ hi => hi
theorem Keep.up {S : Obs} {h h' : Heap} (k : Keep (From h.length) h h') (up : Up S h) : Keep S h h' := k.mono fun i hi => up i hi
theorem Keep.fresh {S : Obs} {h h' h'' : Heap} (a : Keep S h h') (k : Keep (From h'.length) h' h'') (up : Up S h) : Keep S h h'' := a.trans (k.up (up.keep a))
def Ap (e : Ty) (S : Obs) (h : Heap) (x : AV) (l : List AV) : Prop :=
  (x = .nils ∧ l = []) ∨ (∃ k, x = .vsl e l k ∧ (k = .exact ∨ ∃ r g, k = .own r g ∧ S r ∧ h[r]? = some (.tok g)))
theorem Ap.mono {e : Ty} {S U : Obs} {h : Heap} {x : AV} {l : List AV} (a : Ap e S h x l) (hs : ∀ i, S i → U i) : Ap e U h x l := by
  rcases a with a | ⟨kk, hx, a | ⟨r, g, hk, hr, hg⟩⟩
  · exact .inl a
  · exact .inr ⟨kk, hx, .inl a⟩
  · exact .inr ⟨kk, hx, .inr ⟨r, g, hk, hs r hr, hg⟩⟩
theorem Ap.keep {e : Ty} {S U : Obs} {h h' : Heap} {x : AV} {l : List AV} (a : Ap e S h x l) (k : Keep U h h') (hd : ∀ i, i < h.length → S i → ¬ U i) : Ap e S h' x l := by
  rcases a with a | ⟨kk, hx, a | ⟨r, g, hk, hr, hg⟩⟩
  · exact .inl a
  · exact .inr ⟨kk, hx, .inl a⟩
  · exact .inr ⟨kk, hx, .inr ⟨r, g, hk, hr, by rw [k.2 r (hd r (List.getElem?_eq_some_iff.1 hg).1 hr)]; exact hg⟩⟩
theorem Ap.fresh {e : Ty} {S : Obs} {h h' : Heap} {x : AV} {l : List AV} (a : Ap e S h x l) (k : Keep (From h.length) h h') : Ap e S h' x l := a.keep k fun _ hi _ hj => Nat.not_le.2 hi hj
theorem Ap.at {e : Ty} {S : Obs} {h h' : Heap} {x : AV} {l : List AV} {p : Nat} {ob : Obj} (a : Ap e S h x l) (hp : h[p]? = some ob) (ho : ∀ g, ob ≠ .tok g) (hk : ∀ i, i < h.length → i ≠ p → h'[i]? = h[i]?) : Ap e S h' x l := by
  rcases a with a | ⟨kk, hx, a | ⟨r, g, hk', hr, hg⟩⟩
  · exact .inl a
  · exact .inr ⟨kk, hx, .inl a⟩
  · refine .inr ⟨kk, hx, .inr ⟨r, g, hk', hr, ?_⟩⟩
    rw [hk r (List.getElem?_eq_some_iff.1 hg).1 (fun e => ?_)]
    · exact hg
    · subst e
      rw [hp] at hg
      cases hg
      exact ho g rfl
def NoTok (h h' : Heap) : Prop := ∀ (i : Nat) (ob : Obj), h[i]? = some ob → (∀ g, ob ≠ .tok g) → h'[i]? = some ob
theorem NoTok.app (h e : Heap) : NoTok h (h ++ e) := fun i ob hi _ => by
  rw [List.getElem?_append_left (List.getElem?_eq_some_iff.1 hi).1]; exact hi
theorem NoTok.set {h : Heap} {r g : Nat} (hr : h[r]? = some (.tok g)) (x : Obj) : NoTok h (h.set r x) := fun i ob hi ho => by
  rw [List.getElem?_set_ne]
  · exact hi
  · rintro rfl
    rw [hr] at hi
    cases hi
    exact ho _ rfl
theorem Ap.append {T : Tab} {e : Ty} {S : Obs} {h : Heap} {x : AV} {l new : List AV} (a : Ap (T.und e) S h x l) (up : Up S h) (hne : new ≠ []) (hz : (zero T e).isSome = true)
    (hb : (l.length + new.length) * T.bytes e ≤ 2 ^ 47) (hl : l.length + new.length < 2 ^ 61) (hs : 0 < T.size e) :
    ∃ x' h' k, aAppend T e false x new h = some (x', h') ∧ x' = .vsl (T.und e) (l ++ new) k ∧ Ap (T.und e) S h' x' (l ++ new) ∧ Keep S h h' ∧ NoTok h h' := by
  cases new with
  | nil => exact absurd rfl hne
  | cons y ys =>
    rcases a with ⟨rfl, rfl⟩ | ⟨kk, rfl, rfl | ⟨r, g, rfl, hr, hg⟩⟩
    · simp only [List.length_nil, Nat.zero_add] at hb hl
      refine ⟨.vsl (T.und e) (y :: ys) (.own h.length 0), h ++ [.tok 0], _, ?_, rfl, .inr ⟨_, rfl, .inr ⟨_, _, rfl, up _ (Nat.le_refl _), by simp⟩⟩, Keep.app h _ up, NoTok.app _ _⟩
      simp only [aAppend]
      rw [if_pos ⟨hb, hl, hz⟩]
      rfl
    · refine ⟨.vsl (T.und e) (l ++ y :: ys) (.own h.length 0), h ++ [.tok 0], _, ?_, rfl, .inr ⟨_, rfl, .inr ⟨_, _, rfl, up _ (Nat.le_refl _), by simp⟩⟩, Keep.app h _ up, NoTok.app _ _⟩
      simp only [aAppend]
      rw [if_pos ⟨trivial, hb, hl, hs, hz⟩]
      rfl
    · have hlt : r < h.length := (List.getElem?_eq_some_iff.1 hg).1
      refine ⟨.vsl (T.und e) (l ++ y :: ys) (.own r (g + 1)), h.set r (.tok (g + 1)), _, ?_, rfl, .inr ⟨_, rfl, .inr ⟨_, _, rfl, hr, by simp [hlt]⟩⟩, Keep.set h _ hr, NoTok.set hg _⟩
      simp only [aAppend]
      rw [if_pos ⟨trivial, hb, hl, hs, hz⟩]
      simp only [hg]
      rw [if_pos trivial]
end Go.Ax

set_option linter.unusedVariables false
namespace Go.Ax
open Go Go.Proofs
noncomputable def O71 (i : Nat) : Array Oper := opsOf i (bodyOf Try.f71)
noncomputable def B71_1 : Code := (.seq (.region 7 (O71 7) false) (.seq (.cond (Go.Operand.tmp 18) .skip (.exit 2)) (.seq (.block 3 (.seq (.region 8 (O71 8) false) (.region 9 (O71 9) false))) (.region 10 (O71 10) false))))
noncomputable def B71_2 : Code := (.seq (.region 3 (O71 3) false) (.seq (.cond (Go.Operand.tmp 10) .skip (.exit 0)) (.seq (.block 1 (.seq (.region 4 (O71 4) false) (.seq (.region 5 (O71 5) false) (.seq (.region 6 (O71 6) false) (.block 2 (.loop B71_1)))))) (.region 11 (O71 11) false))))
theorem s71 : bodyOf Try.f71 = (.seq (.region 0 (O71 0) false) (.seq (.region 1 (O71 1) false) (.seq (.seq (.region 2 (O71 2) false) (.block 0 (.loop B71_2))) (.seq (.region 12 (O71 12) false) .ret)))) := by kernel_rfl
theorem e71 : E0 71 = some ⟨30, [2], bodyOf Try.f71⟩ := by kernel_rfl
theorem r71_0 (x0 : AV) : RR O71 71 30 0 false [(0, x0)] fun _ call md k h =>
 k .normal (st 30 [(0, x0)]) h
 := fun _ _ _ _ _ _ => by kernel_rfl
theorem r71_1 (x0 : AV) : RR O71 71 30 1 false [(0, x0)] fun _ call md k h =>
 k .normal (st 30 [(0, x0), (3, (.int .u32 4294967295))]) h
 := fun _ _ _ _ _ _ => by kernel_rfl
theorem r71_2 (x0 x3 : AV) : RR O71 71 30 2 false [(0, x0), (3, x3)] fun _ call md k h =>
 bnd (aLen tab 22 x0) fun v1 =>
 k .normal (st 30 [(3, x3), (7, x0), (8, v1), (9, (.int .i64 0))]) h
 := fun _ _ _ _ _ _ => by kernel_rfl
theorem r71_3 (x3 x7 x8 x9 : AV) : RR O71 71 30 3 false [(3, x3), (7, x7), (8, x8), (9, x9)] fun _ call md k h =>
 bnd (aBinC tab .lss 3 x9 x8 false) fun v1 =>
 k .normal (st 30 [(3, x3), (7, x7), (8, x8), (9, x9), (10, v1)]) h
 := fun _ _ _ _ _ _ => by kernel_rfl
theorem r71_4 (x3 x7 x8 x9 x10 : AV) : RR O71 71 30 4 false [(3, x3), (7, x7), (8, x8), (9, x9), (10, x10)] fun _ call md k h =>
 bnd (aIndexAddr tab 22 x7 x9) fun v1 =>
 bnd (aLoad tab 5 v1 h) fun v2 =>
 k .normal (st 30 [(3, x3), (5, v2), (7, x7), (8, x8), (9, x9)]) h
 := fun _ _ _ _ _ _ => by kernel_rfl
theorem r71_5 (x3 x5 x7 x8 x9 : AV) : RR O71 71 30 5 false [(3, x3), (5, x5), (7, x7), (8, x8), (9, x9)] fun _ call md k h =>
 bnd (aConv tab 5 105 x5 h) fun v1 =>
 bnd (aBinC tab .xor 105 x3 v1 false) fun v2 =>
 k .normal (st 30 [(3, v2), (7, x7), (8, x8), (9, x9)]) h
 := fun _ _ _ _ _ _ => by kernel_rfl
theorem r71_6 (x3 x7 x8 x9 : AV) : RR O71 71 30 6 false [(3, x3), (7, x7), (8, x8), (9, x9)] fun _ call md k h =>
 k .normal (st 30 [(3, x3), (7, x7), (8, x8), (9, x9), (17, (.int .i64 0))]) h
 := fun _ _ _ _ _ _ => by kernel_rfl
theorem r71_7 (x3 x7 x8 x9 x17 : AV) : RR O71 71 30 7 false [(3, x3), (7, x7), (8, x8), (9, x9), (17, x17)] fun _ call md k h =>
 bnd (aBinC tab .lss 3 x17 (.int .i64 8) true) fun v1 =>
 k .normal (st 30 [(3, x3), (7, x7), (8, x8), (9, x9), (17, x17), (18, v1)]) h
 := fun _ _ _ _ _ _ => by kernel_rfl
theorem r71_8 (x3 x7 x8 x9 x17 x18 : AV) : RR O71 71 30 8 false [(3, x3), (7, x7), (8, x8), (9, x9), (17, x17), (18, x18)] fun _ call md k h =>
 bnd (aBinC tab .and 105 x3 (.int .u32 1) true) fun v1 =>
 k .normal (st 30 [(3, x3), (6, v1), (7, x7), (8, x8), (9, x9), (17, x17)]) h
 := fun _ _ _ _ _ _ => by kernel_rfl
theorem r71_9 (x3 x6 x7 x8 x9 x17 : AV) : RR O71 71 30 9 false [(3, x3), (6, x6), (7, x7), (8, x8), (9, x9), (17, x17)] fun _ call md k h =>
 bnd (aBinC tab .shr 105 x3 (.int .u64 1) true) fun v1 =>
 bnd (aBinC tab .mul 105 (.int .u32 2197175160) x6 true) fun v2 =>
 bnd (aBinC tab .xor 105 v1 v2 false) fun v3 =>
 k .normal (st 30 [(3, v3), (7, x7), (8, x8), (9, x9), (17, x17)]) h
 := fun _ _ _ _ _ _ => by kernel_rfl
theorem r71_10 (x3 x7 x8 x9 x17 : AV) : RR O71 71 30 10 false [(3, x3), (7, x7), (8, x8), (9, x9), (17, x17)] fun _ call md k h =>
 bnd (aBinC tab .add 3 x17 (.int .i64 1) true) fun v1 =>
 k .normal (st 30 [(3, x3), (7, x7), (8, x8), (9, x9), (17, v1)]) h
 := fun _ _ _ _ _ _ => by kernel_rfl
theorem r71_11 (x3 x7 x8 x9 x17 x18 : AV) : RR O71 71 30 11 false [(3, x3), (7, x7), (8, x8), (9, x9), (17, x17), (18, x18)] fun _ call md k h =>
 bnd (aBinC tab .add 3 x9 (.int .i64 1) true) fun v1 =>
 k .normal (st 30 [(3, x3), (7, x7), (8, x8), (9, v1)]) h
 := fun _ _ _ _ _ _ => by kernel_rfl
theorem r71_12 (x3 x7 x8 x9 x10 : AV) : RR O71 71 30 12 false [(3, x3), (7, x7), (8, x8), (9, x9), (10, x10)] fun _ call md k h =>
 bnd (aUn .xor x3) fun v1 =>
 k .normal (st 30 [(2, v1)]) h
 := fun _ _ _ _ _ _ => by kernel_rfl
end Go.Ax

namespace Go.Ax
open Go Go.Proofs
def crcBit (v : BitVec 32) : BitVec 32 := (v >>> 1) ^^^ (2197175160#32 * (v &&& 1#32))
def crcBits : Nat → BitVec 32 → BitVec 32
  | 0, v => v
  | n + 1, v => crcBits n (crcBit v)
def crcByte (v : BitVec 32) (c : UInt8) : BitVec 32 := crcBits 8 (v ^^^ c.toBitVec.setWidth 32)
def crc (l : List UInt8) : BitVec 32 := ~~~ (l.foldl crcByte 4294967295#32)
def Bs (x : AV) (l : List UInt8) : Prop := (x = .nils ∧ l = []) ∨ ∃ k, x = .vsl 5 (l.map U8) k
theorem inner71 (call : CallF) (md : Bool) (N : Nat) (x7 x8 x9 : AV) (h : Heap) (K : Ex → List AV → Heap → Option (AV × Heap)) (r : AV × Heap) :
    ∀ (m n : Nat) (v : BitVec 32), m ≤ 8 → m < n → (∀ x, K (.exit 2) (st 30 [(3, U32 (crcBits m v)), (7, x7), (8, x8), (9, x9), (17, x), (18, .bool false)]) h = some r) →
    loopK (fun next => runK C0 call md 71 N B71_1 (seqE next K)) n (st 30 [(3, U32 v), (7, x7), (8, x8), (9, x9), (17, .int .i64 (8 - m : Nat))]) h = some r := by
  intro m
  induction m with
  | zero =>
    intro n v hm hn hK
    cases n with
    | zero => omega
    | succ n =>
      rw [loopK_succ]
      generalize loopK (fun next => runK C0 call md 71 N B71_1 (seqE next K)) n = L
      simp -implicitDefEqProofs only [B71_1, runK_seq, runK_cond, runK_skip, runK_exit, seqE_n, seqE_e, r71_7, bin_lss, bnd_s]
      rw [st_ev 30 _ 18 (.bool false) (by decide) rfl]
      exact hK _
  | succ m ih =>
    intro n v hm hn hK
    cases n with
    | zero => omega
    | succ n =>
      rw [loopK_succ]
      have ih' := ih n (crcBit v) (by omega) (by omega) hK
      generalize loopK (fun next => runK C0 call md 71 N B71_1 (seqE next K)) n = L at ih' ⊢
      have e : decide (((8 - (m + 1) : Nat) : Int) < 8) = true := by simp; omega
      simp -implicitDefEqProofs only [B71_1, runK_seq, runK_cond, runK_skip, runK_exit, seqE_n, seqE_e, r71_7, bin_lss, bnd_s, e]
      rw [st_ev 30 _ 18 (.bool true) (by decide) rfl]
      have c1 : AV.int .u32 1 = U32 1#32 := u32_lit 1 (by decide)
      have c2 : AV.int .u32 2197175160 = U32 2197175160#32 := u32_lit 2197175160 (by decide)
      have c3 := u32_shr tab 105 v true 1 (by decide)
      have e3 : IntKind.i64.wrap (((8 - (m + 1) : Nat) : Int) + 1) = ((8 - m : Nat) : Int) := by rw [wrap_i64] <;> omega
      simp -implicitDefEqProofs only [onB_t, runK_seq, runK_block, seqE_n, blkE_n, r71_8, r71_9, r71_10, c1, c2, u32_and, u32_mul, u32_xor, bnd_s, bin_add, e3] at c3 ⊢
      rw [show ((1 : Nat) : Int) = 1 from rfl] at c3
      simp -implicitDefEqProofs only [c3, bnd_s, u32_xor, blkE_n, seqE_n, r71_10, bin_add, e3]
      exact ih'
theorem Bs.len {x : AV} {l : List UInt8} (hx : Bs x l) : aLen tab 22 x = some (.int .i64 l.length) := by
  rcases hx with ⟨rfl, rfl⟩ | ⟨k, rfl⟩
  · exact len_nils22
  · rw [len22, List.length_map]
theorem Bs.idx {x : AV} {l : List UInt8} (hx : Bs x l) {i : Nat} {b : UInt8} (hi : l[i]? = some b) : aIndexAddr tab 22 x (.int .i64 i) = some (.vptr 5 (U8 b)) := by
  rcases hx with ⟨rfl, rfl⟩ | ⟨k, rfl⟩
  · simp at hi
  · rw [idx22]; simp [hi]
theorem outer71 (call : CallF) (md : Bool) (N : Nat) (hN : 9 ≤ N) (x : AV) (l : List UInt8) (hx : Bs x l) (h : Heap) (K : Ex → List AV → Heap → Option (AV × Heap)) (r : AV × Heap) :
    ∀ (m n i : Nat) (v : BitVec 32), i + m = l.length → m < n → l.length < 2 ^ 62 →
    (∀ y z, K (.exit 0) (st 30 [(3, U32 ((l.drop i).foldl crcByte v)), (7, x), (8, y), (9, z), (10, .bool false)]) h = some r) →
    loopK (fun next => runK C0 call md 71 N B71_2 (seqE next K)) n (st 30 [(3, U32 v), (7, x), (8, .int .i64 l.length), (9, .int .i64 i)]) h = some r := by
  intro m
  induction m with
  | zero =>
    intro n i v him hn hl hK
    cases n with
    | zero => omega
    | succ n =>
      rw [loopK_succ]
      generalize loopK (fun next => runK C0 call md 71 N B71_2 (seqE next K)) n = L
      have e : decide ((i : Int) < (l.length : Int)) = false := by simp; omega
      simp -implicitDefEqProofs only [B71_2, ↓RK, RK, r71_3, bin_lss, ↓RB, RB, decide_true, decide_false, STs, Nat.reduceBEq, ↓reduceIte, Nat.reduceLT, e]
      have := hK (.int .i64 l.length) (.int .i64 i)
      rw [List.drop_eq_nil_of_le (by omega)] at this
      exact this
  | succ m ih =>
    intro n i v him hn hl hK
    cases n with
    | zero => omega
    | succ n =>
      obtain ⟨b, hb⟩ : ∃ b, l[i]? = some b := ⟨l[i], List.getElem?_eq_getElem (by omega)⟩
      have hd : l.drop i = b :: l.drop (i + 1) := by
        obtain ⟨h1, h2⟩ := List.getElem?_eq_some_iff.1 hb
        rw [← h2]; exact List.drop_eq_getElem_cons h1
      rw [loopK_succ]
      rw [hd] at hK
      have ih' := ih n (i + 1) (crcByte v b) (by omega) (by omega) hl hK
      generalize loopK (fun next => runK C0 call md 71 N B71_2 (seqE next K)) n = L at ih' ⊢
      have e : decide ((i : Int) < (l.length : Int)) = true := by simp; omega
      simp -implicitDefEqProofs only [B71_2, ↓RK, RK, r71_3, r71_4, r71_5, r71_6, bin_lss, ↓RB, RB, decide_true, decide_false, STs, Nat.reduceBEq, ↓reduceIte, Nat.reduceLT, e, hx.idx hb, load5, conv_8_32, u32_xor]
      refine inner71 call md N _ _ _ h _ r 8 N _ (by omega) (by omega) fun y => ?_
      have e3 : IntKind.i64.wrap ((i : Int) + 1) = ((i + 1 : Nat) : Int) := by rw [wrap_i64] <;> omega
      simp -implicitDefEqProofs only [↓RK, RK, ↓RB, RB, decide_true, decide_false, r71_11, bin_add, e3]
      exact ih'
theorem sum_of {x : AV} {l : List UInt8} (hx : Bs x l) (hl : l.length < 2 ^ 62) (md : Bool) (h : Heap) (k : Nat) (hk : l.length + 9 < k) : exFn C0 E0 k md 71 [x] h = some (U32 (crc l), h) := by
  obtain ⟨k, rfl⟩ : ∃ j, k = j + 1 := ⟨k - 1, by omega⟩
  refine exFn_of e71 ?_
  rw [fnK, show ([x] ++ List.replicate (30 - [x].length) AV.undef) = st 30 [(0, x)] from rfl, s71]
  have c1 : AV.int .u32 4294967295 = U32 4294967295#32 := u32_lit 4294967295 (by decide)
  simp -implicitDefEqProofs only [↓RK, RK, ↓RB, RB, decide_true, decide_false, STs, Nat.reduceBEq, ↓reduceIte, Nat.reduceLT, r71_0, r71_1, r71_2, hx.len, c1]
  refine outer71 _ md k (by omega) x l hx h _ _ l.length k 0 _ (by omega) (by omega) hl fun y z => ?_
  simp -implicitDefEqProofs only [↓RK, RK, ↓RB, RB, decide_true, decide_false, STs, Nat.reduceBEq, ↓reduceIte, Nat.reduceLT, r71_12, u32_not, List.drop_zero]
  rfl
end Go.Ax

namespace Go.Ax
open Go Go.Proofs Go.RowKit
def J0 (w : World) : Inj where
  imm b o := w.cell? ⟨b, o, none⟩
  loc _ := none
  shape _ := .var 0
  tloc _ _ := none
  own _ _ := 0
theorem rel0 (w : World) : Rel tab w.heap.size w (J0 w) [] w where
  below := Below.refl _ _
  base := Nat.le_refl _
  marks b hb ob ho := by rw [Array.getElem?_eq_none hb] at ho; cases ho
  imm _ _ _ hv := ⟨hv, rfl⟩
  own _ _ h := absurd rfl h
  fresh _ _ := ⟨rfl, fun _ => rfl⟩
  objs r ob h := by simp at h
theorem calls0 {g : FuncId} {x : Fn'} (hg : E0 g = some x) {k : Nat} {mode : Bool} {args : List AV} {h h' : Heap} {v : AV} (hr : exFn C0 E0 k mode g args h = some (v, h')) {B : Nat} {w0 w : World} {J : Inj} {xs : List Value}
    (R : Rel tab B w0 J h w) (hv : VRL tab J args xs) : Calls Try.prog g xs.toArray w fun e w' => ∃ J' r, J.Le J' ∧ e = .returned r ∧ VR tab J' v r ∧ Rel tab B w0 J' h' w' := by
  rcases call_ok k mode g args h v h' hr B w0 J w xs R hv with h1 | ⟨w', r, J', h1, -⟩
  · exact h1.2
  · exfalso
    obtain ⟨fn, hfn, hbody, hnt, hres, hname⟩ := E0_ok.fn g x hg
    have : (callFunc g xs.toArray).run Try.prog w = .ok (.enter g xs.toArray) w := by
      unfold callFunc
      simp only [Go.program, Sem.run_bind, Sem.run, Result.andThen_ok, hfn, hname, hbody, Option.isNone_some, Bool.false_eq_true, if_false]
      rfl
    rw [this] at h1
    cases h1
theorem law_calls {g : FuncId} {x : Fn'} (hg : E0 g = some x) {k : Nat} {args : List AV} {h' : Heap} (hr : exFn C0 E0 k false g args [] = some (.bool true, h')) {w : World} {xs : List Value} (hv : VRL tab (J0 w) args xs) :
    Calls Try.prog g xs.toArray w fun e w' => e = .returned (.bool true) ∧ Below w.heap.size w w' := by
  refine (calls0 hg hr (rel0 w) hv).mono fun e w' ⟨J', r, _, he, hv, R⟩ => ⟨?_, R.below⟩
  rw [he, hv.bool_inv]
theorem wf_u8 {n : Int} (h : (Lit.int .u8 n).wf = true) : 0 ≤ n ∧ n < 256 := by
  simp only [Lit.wf, Bool.and_eq_true, decide_eq_true_eq] at h
  have h1 : IntKind.u8.min = 0 := by decide
  have h2 : IntKind.u8.max = 255 := by decide
  omega
theorem wf_u64 {n : Int} (h : (Lit.int .u64 n).wf = true) : 0 ≤ n ∧ n < 18446744073709551616 := by
  simp only [Lit.wf, Bool.and_eq_true, decide_eq_true_eq] at h
  have h1 : IntKind.u64.min = 0 := by decide
  have h2 : IntKind.u64.max = 18446744073709551615 := by decide
  omega
end Go.Ax

namespace Go.Ax
open Go Go.RowKit Go.ChangeShapes
def plain (T : Tab) : Nat → Ty → Bool
  | 0, _ => false
  | n + 1, t => match T.d t with
    | .int _ | .bool | .str => true
    | .slice e => plain T n e && decide (0 < T.size e)
    | .struct ts => ts.all (plain T n)
    | .arr _ e => plain T n e
    | _ => false
inductive Wf (T : Tab) : Ty → AV → Prop
  | int {t k n} : T.d t = .int k → (Lit.int k n).wf = true → Wf T t (.int k n)
  | bool {t b} : T.d t = .bool → Wf T t (.bool b)
  | str {t} {s : ByteArray} : T.d t = .str → s.size ≤ maxLen → Wf T t (.str s)
  | nils {t e} : T.d t = .slice e → Wf T t .nils
  | vsl {t e l} : T.d t = .slice e → l.length ≤ maxLen → (∀ x ∈ l, Wf T e x) → Wf T t (.vsl (T.und e) l .none)
  | struct {t ts fs} : T.d t = .struct ts → fs.length = ts.length → (∀ (i : Nat) (f : Ty) (x : AV), ts[i]? = some f → fs[i]? = some x → Wf T f x) → Wf T t (.agg (T.und t) fs)
  | arr {t n e fs} : T.d t = .arr n e → fs.length = n → (∀ x ∈ fs, Wf T e x) → Wf T t (.agg (T.und t) fs)
section
variable {P : Program} {T : Tab} {w : World} {H : Type} {enc : TypeId × Value → H} {base : Nat} {held : Bool}
theorem Fits.cellsOf (F : Fits P T) {t : Ty} (h : T.d t ≠ .other) : P.cellsOf t = T.size t := by
  unfold Program.cellsOf
  rw [F.size t h]
  rfl
theorem flE_chunks {J : Inj} {e : Ty} (f : Nat → Option (List Value)) : ∀ (n : Nat), (∀ i, i < n → ∃ a cs, f i = some cs ∧ Fl T J e a cs ∧ Wf T e a) →
    ∃ l cs, l.length = n ∧ FlE T J e l cs ∧ (∀ x ∈ l, Wf T e x) ∧ cs = ((List.range n).map fun i => (f i).getD []).flatten := by
  intro n
  induction n with
  | zero => intro _; exact ⟨[], [], rfl, .nil, by simp, by simp⟩
  | succ n ih =>
    intro h
    obtain ⟨l, cs, h1, h2, h3, h4⟩ := ih fun i hi => h i (by omega)
    obtain ⟨a, c, hf, ha, hw⟩ := h n (by omega)
    refine ⟨l ++ [a], cs ++ c, by simp [h1], ?_, ?_, ?_⟩
    · have := h2.append (.cons ha .nil)
      simpa using this
    · intro x hx
      rcases List.mem_append.1 hx with hx | hx
      · exact h3 x hx
      · rw [List.mem_singleton.1 hx]; exact hw
    · rw [List.range_succ, List.map_append, List.flatten_append, h4, List.map_singleton, hf]
      simp
theorem flS_parts {J : Inj} : ∀ (ts : List Ty) (cs : List Value), cs.length = T.sizes ts →
    (∀ (i : Nat) (f : Ty), ts[i]? = some f → ∃ a, Fl T J f a ((cs.drop (T.sizes (ts.take i))).take (T.size f)) ∧ Wf T f a) →
    ∃ fs, FlS T J ts fs cs ∧ fs.length = ts.length ∧ ∀ (i : Nat) (f : Ty) (x : AV), ts[i]? = some f → fs[i]? = some x → Wf T f x := by
  intro ts
  induction ts with
  | nil =>
    intro cs hl _
    obtain rfl : cs = [] := List.eq_nil_of_length_eq_zero (by simpa [Tab.sizes] using hl)
    exact ⟨[], .nil, rfl, by simp⟩
  | cons t ts ih =>
    intro cs hl h
    have hs : T.sizes (t :: ts) = T.size t + T.sizes ts := by simp [Tab.sizes]
    rw [hs] at hl
    obtain ⟨a, ha, hw⟩ := h 0 t rfl
    simp only [List.take_zero, Tab.sizes, List.map_nil, List.sum_nil, List.drop_zero] at ha
    obtain ⟨fs, h1, h2, h3⟩ := ih (cs.drop (T.size t)) (by simp; omega) fun i f hi => by
      obtain ⟨b, hb, hwb⟩ := h (i + 1) f hi
      refine ⟨b, ?_, hwb⟩
      rw [List.drop_drop]
      rw [List.take_succ_cons, show T.sizes (t :: ts.take i) = T.size t + T.sizes (ts.take i) by simp [Tab.sizes]] at hb
      exact hb
    refine ⟨a :: fs, ?_, by simp [h2], fun i f x hi hx => ?_⟩
    · have := FlS.cons ha h1
      rwa [List.take_append_drop] at this
    · cases i with
      | zero => simp at hi hx; subst hi; subst hx; exact hw
      | succ i => exact h3 i f x (by simpa using hi) (by simpa using hx)
theorem trod_array_open {n : Nat} {e t : Ty} {fuel : Nat} {cs : List Value} {x : DataW H × List MemPlace} (ht : P.underlying t = some (.array n e)) (h : DataW.trod enc P w base (fun _ => true) held fuel t cs = some x) :
    ∃ m, fuel = m + 1 ∧ cs.length = P.cellsOf t ∧ ∀ i, i < n → ∃ y, DataW.trod enc P w base (fun _ => true) held m e ((cs.drop (i * P.cellsOf e)).take (P.cellsOf e)) = some y := by
  cases fuel with
  | zero => simp [DataW.trod] at h
  | succ m =>
    rw [DataW.trod_step] at h
    unfold DataW.trodStep at h
    simp only [ht] at h
    split at h
    · rename_i hl
      refine ⟨m, rfl, hl, fun i hi => ?_⟩
      simp only [Option.map_eq_some_iff] at h
      obtain ⟨xs, hxs, -⟩ := h
      have hlen : xs.length = n := by simpa using mapM_some_length hxs
      exact ⟨xs[i], by
        have := mapM_some_get hxs i i (by simp [hi])
        rw [this, List.getElem?_eq_getElem]⟩
    · cases h
theorem range_cells {b o k n : Nat} {cs : List Value} (g : Nat → List Value) (hg : ∀ i, i < n → (g i).length = k ∧ ∀ j, j < k → w.cell? ⟨b, o + i * k + j, none⟩ = (g i)[j]?) (hc : cs = ((List.range n).map g).flatten) :
    cs.length = n * k ∧ ∀ j v, cs[j]? = some v → w.cell? ⟨b, o + j, none⟩ = some v := by
  subst hc
  induction n with
  | zero => simp
  | succ n ih =>
    obtain ⟨h1, h2⟩ := ih fun i hi => hg i (by omega)
    obtain ⟨h3, h4⟩ := hg n (by omega)
    rw [List.range_succ, List.map_append, List.flatten_append]
    simp only [List.map_singleton, List.flatten_cons, List.flatten_nil, List.append_nil]
    refine ⟨by rw [List.length_append, h1, h3, Nat.succ_mul], fun j v hv => ?_⟩
    by_cases hj : j < n * k
    · rw [List.getElem?_append_left (by omega)] at hv
      exact h2 j v hv
    · rw [List.getElem?_append_right (by omega), h1] at hv
      have hjk := (List.getElem?_eq_some_iff.1 hv).1
      have := h4 (j - n * k) (by omega)
      rw [show o + n * k + (j - n * k) = o + j by omega] at this
      rw [this, hv]
theorem open_fl (F : Fits P T) : ∀ (n fuel : Nat) (t : Ty) (cs : List Value) (x : DataW H × List MemPlace), DataW.trod enc P w base (fun _ => true) held fuel t cs = some x → plain T n t = true →
    ∃ a, Fl T (J0 w) t a cs ∧ Wf T t a := by
  intro n
  induction n with
  | zero => intro _ _ _ _ _ h; cases h
  | succ n ih =>
    intro fuel t cs x h hp
    unfold plain at hp
    split at hp
    · rename_i k hd
      obtain ⟨m, rfl, -, hw⟩ := DataW.trod_int (F.und_int hd) h
      exact ⟨_, .cell (by simp [Tab.cell, hd, D.cell]) (.int _ _), .int hd hw⟩
    · rename_i hd
      obtain ⟨b, rfl, -⟩ := DataW.trod_bool (F.und_bool hd) h
      exact ⟨_, .cell (by simp [Tab.cell, hd, D.cell]) (.bool _), .bool hd⟩
    · rename_i hd
      obtain ⟨s, rfl, -, hs⟩ := DataW.trod_string (F.und_str hd) h
      exact ⟨_, .cell (by simp [Tab.cell, hd, D.cell]) (.str _), .str hd hs⟩
    · rename_i e hd
      simp only [Bool.and_eq_true, decide_eq_true_eq] at hp
      obtain ⟨hpe, hse⟩ := hp
      have hce := F.cellsOf (F.ok.sliceE _ _ hd)
      rcases DataW.trod_slice (F.und_slice hd) h with ⟨rfl, -⟩ | ⟨⟨b, o, sp⟩, len, cap, elems, rest, m, rfl, rfl, -, -, hl, hm, hlen, hel, hsp, -⟩
      · exact ⟨_, .cell (by simp [Tab.cell, hd, D.cell]) .nils, .nils hd⟩
      · by_cases hc : cap = 0
        · obtain rfl : len = 0 := by omega
          subst hc
          exact ⟨.vsl (T.und e) [] .none, .cell (by simp [Tab.cell, hd, D.cell]) .vsle, .vsl hd (by simp) (by simp)⟩
        · have hrest := hsp rfl
          have each : ∀ i, i < cap → ∃ cs' y, w.cells? base ((⟨b, o, sp⟩ : Addr).add (i * T.size e)) (T.size e) = some cs' ∧ DataW.trod enc P w base (fun _ => true) held m e cs' = some y := by
            intro i hi
            by_cases hil : i < len
            · have := hel i hil
              rw [List.getElem?_eq_getElem (by omega), Option.bind_eq_some_iff, hce] at this
              obtain ⟨cs', h1, h2⟩ := this
              exact ⟨cs', _, h1, h2⟩
            · have := hrest.2 (i - len) (by omega)
              rw [List.getElem?_eq_getElem (by omega), Option.bind_eq_some_iff, hce, show len + (i - len) = i by omega] at this
              obtain ⟨cs', h1, h2⟩ := this
              exact ⟨cs', _, h1, h2⟩
          obtain rfl : sp = none := by
            obtain ⟨cs', y, h1, -⟩ := each 0 (by omega)
            obtain ⟨-, h2, h3⟩ := World.cells?_some h1
            have := h3 0 hse
            rw [List.getElem?_eq_getElem (by omega)] at this
            simp only [Nat.zero_mul, Addr.add, if_true] at this
            unfold World.cell? at this
            cases sp with
            | none => rfl
            | some s => simp at this; split at this <;> simp at this
          have adr : ∀ i j, ((⟨b, o, none⟩ : Addr).add (i * T.size e)).add j = ⟨b, o + i * T.size e + j, none⟩ := by
            intro i j
            simp only [Addr.add]
            split <;> split <;> simp_all
          obtain ⟨l, cs, g1, g2, g3, g4⟩ := flE_chunks (T := T) (J := J0 w) (e := e) (fun i => w.cells? base ((⟨b, o, none⟩ : Addr).add (i * T.size e)) (T.size e)) len fun i hi => by
            obtain ⟨cs', y, h1, h2⟩ := each i (by omega)
            obtain ⟨a, ha, hw⟩ := ih m e cs' y h2 hpe
            exact ⟨a, cs', h1, ha, hw⟩
          have hcells := range_cells (w := w) (b := b) (o := o) (k := T.size e) (n := len) (cs := cs) (fun i => (w.cells? base ((⟨b, o, none⟩ : Addr).add (i * T.size e)) (T.size e)).getD []) (fun i hi => by
            obtain ⟨cs', y, h1, -⟩ := each i (by omega)
            obtain ⟨-, h2, h3⟩ := World.cells?_some h1
            rw [h1]
            refine ⟨h2, fun j hj => ?_⟩
            rw [← adr i j]
            exact h3 j hj) g4
          have g2' := FlE.conv F.ok (F.ok.undUnd e).symm g2
          refine ⟨.vsl (T.und e) l .none, .cell (by simp [Tab.cell, hd, D.cell]) ?_, .vsl hd (by omega) g3⟩
          have := Cell.vsl (T := T) (J := J0 w) (e := T.und e) (k := .none) (b := b) (o := o) (n := cap - len) g2' (fun i v hv => hcells.2 i v hv) trivial
          rw [g1, Nat.add_sub_cancel' hl] at this
          exact this
    · rename_i ts hd
      obtain ⟨fs, h1, h2, h3⟩ := F.und_struct hd
      obtain ⟨xs, m, rfl, -, hl, hx, hf⟩ := DataW.trod_struct h1 h
      rw [F.cellsOf (by rw [hd]; intro h; cases h), F.ok.struct _ _ hd] at hl
      have hp' := List.all_eq_true.1 hp
      obtain ⟨gs, q1, q2, q3⟩ := flS_parts (T := T) (J := J0 w) ts cs hl fun i f hi => by
        have hi2 : i < fs.toList.length := by
          have := (List.getElem?_eq_some_iff.1 hi).1
          rw [← h2] at this
          simpa using this
        have hi3 : i < fs.size := by simpa using hi2
        have e1 : fs[i]? = some fs[i] := Array.getElem?_eq_getElem hi3
        have e2 : fs[i].type = f := by
          rw [← h2, List.getElem?_map] at hi
          simp [hi3] at hi
          exact hi
        have := hf i fs[i] e1
        rw [List.getElem?_eq_getElem (by omega), h3 i _ e1, e2, F.cellsOf (F.ok.structE _ _ hd f (List.mem_of_getElem? hi))] at this
        exact ih m f _ _ this (hp' f (List.mem_of_getElem? hi))
      exact ⟨.agg (T.und t) gs, .struct hd rfl q1, .struct hd q2 q3⟩
    · rename_i k e hd
      obtain ⟨m, rfl, hl, he⟩ := trod_array_open (F.und_arr hd) h
      have hce := F.cellsOf (F.ok.arrE _ _ _ hd)
      rw [F.cellsOf (by rw [hd]; intro h; cases h), F.ok.arr _ _ _ hd] at hl
      obtain ⟨l, cs', g1, g2, g3, g4⟩ := flE_chunks (T := T) (J := J0 w) (e := e) (fun i => some ((cs.drop (i * T.size e)).take (T.size e))) k fun i hi => by
        obtain ⟨y, hy⟩ := he i hi
        rw [hce] at hy
        obtain ⟨a, ha, hw⟩ := ih m e _ y hy hp
        exact ⟨a, _, rfl, ha, hw⟩
      have hcs : cs' = cs := by
        rw [g4]
        clear g2 g4 he h
        simp only [Option.getD_some]
        have : ∀ n, n ≤ k → ((List.range n).map fun i => (cs.drop (i * T.size e)).take (T.size e)).flatten = cs.take (n * T.size e) := by
          intro n
          induction n with
          | zero => intro _; simp
          | succ n ih2 =>
            intro hn
            rw [List.range_succ, List.map_append, List.flatten_append, ih2 (by omega)]
            simp only [List.map_singleton, List.flatten_cons, List.flatten_nil, List.append_nil]
            rw [Nat.succ_mul, List.take_add]
        rw [this k (Nat.le_refl _), ← hl, List.take_length]
      subst hcs
      exact ⟨.agg (T.und t) l, .arr hd rfl g1 g2, .arr hd g1 g3⟩
    · cases hp
theorem open_arg (F : Fits P T) {n : Nat} {t : Ty} {v : Value} {d : DataW H} {p : List MemPlace} {r : Reach} {b : Nat} (hok : Value.okWide P w r b t v) (h : DataW.Trod enc P w base (fun _ => true) held t v d p) (hp : plain T n t = true) :
    ∃ a, VR T (J0 w) a v ∧ Wf T t a := by
  obtain ⟨fuel, h⟩ := h
  obtain ⟨a, hf, hw⟩ := open_fl F n fuel t _ _ h hp
  refine ⟨a, ?_, hw⟩
  have cellcase : T.cell t = true → v.cells = #[v] → VR T (J0 w) a v := by
    intro hc hv
    rw [hv] at hf
    cases hf with
    | cell _ c => exact .cell c
    | struct hd _ _ => simp [Tab.cell, hd, D.cell] at hc
    | arr hd _ _ _ => simp [Tab.cell, hd, D.cell] at hc
  cases n with
  | zero => cases hp
  | succ n =>
    unfold plain at hp
    split at hp
    · rename_i k hd
      simp only [Value.okWide, F.und_int hd, Cell.okWide, Cell.ok] at hok
      refine cellcase (by simp [Tab.cell, hd, D.cell]) ?_
      cases v <;> first | rfl | exact hok.elim
    · rename_i hd
      simp only [Value.okWide, F.und_bool hd, Cell.okWide, Cell.ok] at hok
      refine cellcase (by simp [Tab.cell, hd, D.cell]) ?_
      cases v <;> first | rfl | exact hok.elim
    · rename_i hd
      simp only [Value.okWide, F.und_str hd, Cell.okWide, Cell.ok] at hok
      refine cellcase (by simp [Tab.cell, hd, D.cell]) ?_
      cases v <;> first | rfl | exact hok.elim
    · rename_i e hd
      simp only [Value.okWide, F.und_slice hd, Cell.okWide, Cell.ok] at hok
      refine cellcase (by simp [Tab.cell, hd, D.cell]) ?_
      cases v <;> first | rfl | exact hok.elim
    · rename_i ts hd
      obtain ⟨fs, h1, -⟩ := F.und_struct hd
      simp only [Value.okWide, h1] at hok
      obtain ⟨cs, rfl, -⟩ := hok
      obtain ⟨l, rfl⟩ : ∃ l : List Value, cs = l.toArray := ⟨cs.toList, by simp⟩
      change Fl T (J0 w) t a l at hf
      cases hf with
      | cell hc _ => simp [Tab.cell, hd, D.cell] at hc
      | struct hd' hu hs => exact .agg (.struct (by rw [hu, F.ok.und]; exact hd') (by rw [hu, F.ok.undUnd]) hs)
      | arr hd' _ _ _ => rw [hd] at hd'; cases hd'
    · rename_i k e hd
      simp only [Value.okWide, F.und_arr hd] at hok
      obtain ⟨cs, rfl, -⟩ := hok
      obtain ⟨l, rfl⟩ : ∃ l : List Value, cs = l.toArray := ⟨cs.toList, by simp⟩
      change Fl T (J0 w) t a l at hf
      cases hf with
      | cell hc _ => simp [Tab.cell, hd, D.cell] at hc
      | struct hd' _ _ => rw [hd] at hd'; cases hd'
      | arr hd' hu hl hs => exact .agg (.arr (by rw [hu, F.ok.und]; exact hd') (by rw [hu, F.ok.undUnd]) hl hs)
    · cases hp
end
theorem open_args {P : Program} {T : Tab} (F : Fits P T) {W : World} {H : Type} {enc : TypeId × Value → H} {n b : Nat} : ∀ (ts : List Ty) (vs : List Value) (ds : List (DataW H)) (ps : List MemPlace),
    DataW.TrodAll enc P W 0 (fun _ => true) true ts vs ds ps → (∀ (j : Nat) t v, ts[j]? = some t → vs[j]? = some v → Value.okWide P W .any b t v) → ts.all (plain T n) = true →
    ∃ xs, VRL T (J0 W) xs vs ∧ xs.length = ts.length ∧ ∀ (i : Nat) (t : Ty) (a : AV), ts[i]? = some t → xs[i]? = some a → Wf T t a := by
  intro ts
  induction ts with
  | nil =>
    intro vs ds ps h _ _
    cases vs <;> cases ds <;> simp [DataW.TrodAll] at h
    exact ⟨[], .nil, rfl, by simp⟩
  | cons t ts ih =>
    intro vs ds ps h hok hp
    obtain ⟨v, vs', d, ds', p, q, rfl, rfl, rfl, h1, h2⟩ := trodAll_cons h
    simp only [List.all_cons, Bool.and_eq_true] at hp
    obtain ⟨a, ha, hw⟩ := open_arg F (hok 0 t v rfl rfl) h1 hp.1
    obtain ⟨xs, hv, hl, hws⟩ := ih vs' ds' q h2 (fun j t v ht hv => hok (j + 1) t v (by simpa using ht) (by simpa using hv)) hp.2
    refine ⟨a :: xs, .cons ha hv, by simp [hl], fun i t' a' hi ha' => ?_⟩
    cases i with
    | zero => simp at hi ha'; subst hi; subst ha'; exact hw
    | succ i => exact hws i t' a' (by simpa using hi) (by simpa using ha')
theorem all_stay {P : Program} {H : Type} {enc : TypeId × Value → H} (hl : laidOutB P = true) {W W' : World} (bel : Below W.heap.size W W') : ∀ (ts : List Ty) (vs : List Value) (ds : List (DataW H)) (ps : List MemPlace),
    DataW.TrodAll enc P W 0 (fun _ => true) true ts vs ds ps → ts.all (fun t => P.readableRec t && decide (t < P.types.size)) = true →
    ∃ qs, DataW.TrodAll enc P W' 0 (fun b => decide (b < W.heap.size)) true ts vs ds qs := by
  intro ts
  induction ts with
  | nil =>
    intro vs ds ps h _
    cases vs <;> cases ds <;> simp [DataW.TrodAll] at h
    exact ⟨[], rfl⟩
  | cons t ts ih =>
    intro vs ds ps h hp
    obtain ⟨v, vs', d, ds', p, q, rfl, rfl, rfl, h1, h2⟩ := trodAll_cons h
    simp only [List.all_cons, Bool.and_eq_true, decide_eq_true_eq] at hp
    obtain ⟨qs, hq⟩ := ih vs' ds' q h2 hp.2
    have lt : ∀ x ∈ p, x.block < W.heap.size := by obtain ⟨m, hm⟩ := h1; exact DataW.trod_lt m _ _ _ hm
    exact ⟨_, trodAll_cons_mk (Below.trod hl hp.1.1 hp.1.2 h1 bel lt) hq⟩
end Go.Ax

set_option linter.unusedVariables false
namespace Go.Ax
open Go Go.Proofs
noncomputable def O70 (i : Nat) : Array Oper := opsOf i (bodyOf Try.f70)
theorem s70 : bodyOf Try.f70 = (.seq (.region 0 (O70 0) false) (.seq (.region 1 (O70 1) false) .ret)) := by kernel_rfl
theorem e70 : E0 70 = some ⟨19, [4], bodyOf Try.f70⟩ := by kernel_rfl
theorem r70_0 (x0 x1 : AV) : RR O70 70 19 0 false [(0, x0), (1, x1)] fun _ call md k h =>
 k .normal (st 19 [(0, x0), (1, x1)]) h
 := fun _ _ _ _ _ _ => by kernel_rfl
theorem r70_1 (x0 x1 : AV) : RR O70 70 19 1 false [(0, x0), (1, x1)] fun _ call md k h =>
 bnd (aBinC tab .shr 105 x1 (.int .u64 24) true) fun v1 =>
 bnd (aConv tab 105 5 v1 h) fun v2 =>
 bnd (aBinC tab .shr 105 x1 (.int .u64 16) true) fun v3 =>
 bnd (aConv tab 105 5 v3 h) fun v4 =>
 bnd (aBinC tab .shr 105 x1 (.int .u64 8) true) fun v5 =>
 bnd (aConv tab 105 5 v5 h) fun v6 =>
 bnd (aConv tab 105 5 x1 h) fun v7 =>
 bnd (aLit tab 22 4 [(0, v2), (1, v4), (2, v6), (3, v7)]) fun v8 =>
 bnd2 (aApp tab 22 22 md x0 v8 h) fun v9 h10 =>
 k .normal (st 19 [(4, v9)]) h10
 := fun _ _ _ _ _ _ => by kernel_rfl
def R70 := And.intro @r70_0 <| @r70_1
end Go.Ax

set_option linter.unusedVariables false
namespace Go.Ax
open Go Go.Proofs
noncomputable def O72 (i : Nat) : Array Oper := opsOf i (bodyOf Try.f72)
noncomputable def B72_1 : Code := (.seq (.region 3 (O72 3) false) (.seq (.cond (Go.Operand.tmp 13) .skip (.exit 0)) (.seq (.block 1 (.seq (.region 4 (O72 4) false) (.region 5 (O72 5) false))) (.region 6 (O72 6) false))))
theorem s72 : bodyOf Try.f72 = (.seq (.region 0 (O72 0) false) (.seq (.region 1 (O72 1) false) (.seq (.seq (.region 2 (O72 2) false) (.block 0 (.loop B72_1))) (.seq (.region 7 (O72 7) false) .ret)))) := by kernel_rfl
theorem e72 : E0 72 = some ⟨23, [2], bodyOf Try.f72⟩ := by kernel_rfl
theorem r72_0 (x0 : AV) : RR O72 72 23 0 false [(0, x0)] fun _ call md k h =>
 k .normal (st 23 [(0, x0)]) h
 := fun _ _ _ _ _ _ => by kernel_rfl
theorem r72_1 (x0 : AV) : RR O72 72 23 1 false [(0, x0)] fun _ call md k h =>
 k .normal (st 23 [(0, x0), (3, (.int .u32 0))]) h
 := fun _ _ _ _ _ _ => by kernel_rfl
theorem r72_2 (x0 x3 : AV) : RR O72 72 23 2 false [(0, x0), (3, x3)] fun _ call md k h =>
 bnd (aLen tab 22 x0) fun v1 =>
 bnd (aMin [v1, (.int .i64 4)]) fun v2 =>
 bnd (aSlice tab 22 x0 none (some v2) none) fun v3 =>
 bnd (aLen tab 22 v3) fun v4 =>
 k .normal (st 23 [(3, x3), (10, v3), (11, v4), (12, (.int .i64 0))]) h
 := fun _ _ _ _ _ _ => by kernel_rfl
theorem r72_3 (x3 x10 x11 x12 : AV) : RR O72 72 23 3 false [(3, x3), (10, x10), (11, x11), (12, x12)] fun _ call md k h =>
 bnd (aBinC tab .lss 3 x12 x11 false) fun v1 =>
 k .normal (st 23 [(3, x3), (10, x10), (11, x11), (12, x12), (13, v1)]) h
 := fun _ _ _ _ _ _ => by kernel_rfl
theorem r72_4 (x3 x10 x11 x12 x13 : AV) : RR O72 72 23 4 false [(3, x3), (10, x10), (11, x11), (12, x12), (13, x13)] fun _ call md k h =>
 bnd (aIndexAddr tab 22 x10 x12) fun v1 =>
 bnd (aLoad tab 5 v1 h) fun v2 =>
 k .normal (st 23 [(3, x3), (5, v2), (10, x10), (11, x11), (12, x12)]) h
 := fun _ _ _ _ _ _ => by kernel_rfl
theorem r72_5 (x3 x5 x10 x11 x12 : AV) : RR O72 72 23 5 false [(3, x3), (5, x5), (10, x10), (11, x11), (12, x12)] fun _ call md k h =>
 bnd (aBinC tab .shl 105 x3 (.int .u64 8) true) fun v1 =>
 bnd (aConv tab 5 105 x5 h) fun v2 =>
 bnd (aBinC tab .or 105 v1 v2 false) fun v3 =>
 k .normal (st 23 [(3, v3), (10, x10), (11, x11), (12, x12)]) h
 := fun _ _ _ _ _ _ => by kernel_rfl
theorem r72_6 (x3 x10 x11 x12 : AV) : RR O72 72 23 6 false [(3, x3), (10, x10), (11, x11), (12, x12)] fun _ call md k h =>
 bnd (aBinC tab .add 3 x12 (.int .i64 1) true) fun v1 =>
 k .normal (st 23 [(3, x3), (10, x10), (11, x11), (12, v1)]) h
 := fun _ _ _ _ _ _ => by kernel_rfl
theorem r72_7 (x3 x10 x11 x12 x13 : AV) : RR O72 72 23 7 false [(3, x3), (10, x10), (11, x11), (12, x12), (13, x13)] fun _ call md k h =>
 k .normal (st 23 [(2, x3)]) h
 := fun _ _ _ _ _ _ => by kernel_rfl
end Go.Ax

set_option linter.unusedVariables false
namespace Go.Ax
open Go Go.Proofs
noncomputable def O45 (i : Nat) : Array Oper := opsOf i (bodyOf Try.f45)
theorem s45 : bodyOf Try.f45 = (.seq (.region 0 (O45 0) false) (.seq (.region 1 (O45 1) false) .ret)) := by kernel_rfl
theorem e45 : E0 45 = some ⟨9, [2], bodyOf Try.f45⟩ := by kernel_rfl
theorem r45_0 (x0 : AV) : RR O45 45 9 0 false [(0, x0)] fun _ call md k h =>
 k .normal (st 9 [(0, x0)]) h
 := fun _ _ _ _ _ _ => by kernel_rfl
theorem r45_1 (x0 : AV) : RR O45 45 9 1 false [(0, x0)] fun _ call md k h =>
 bnd (aMax [x0, (.int .i64 0)]) fun v1 =>
 bnd (aBinC tab .add 3 v1 (.int .i64 64) true) fun v2 =>
 bnd (aBinC tab .sub 3 v2 (.int .i64 1) true) fun v3 =>
 bnd (aBinC tab .quo 3 v3 (.int .i64 64) true) fun v4 =>
 bnd (aBinC tab .add 3 (.int .i64 1) v4 true) fun v5 =>
 k .normal (st 9 [(2, v5)]) h
 := fun _ _ _ _ _ _ => by kernel_rfl
def R45 := And.intro @r45_0 <| @r45_1
end Go.Ax

set_option linter.unusedVariables false
namespace Go.Ax
open Go Go.Proofs
noncomputable def O47 (i : Nat) : Array Oper := opsOf i (bodyOf Try.f47)
theorem s47 : bodyOf Try.f47 = (.seq (.region 0 (O47 0) false) (.seq (.region 1 (O47 1) false) (.seq (.region 2 (O47 2) false) .ret))) := by kernel_rfl
theorem e47 : E0 47 = some ⟨20, [4], bodyOf Try.f47⟩ := by kernel_rfl
theorem r47_0 (x0 x1 : AV) : RR O47 47 20 0 false [(0, x0), (1, x1)] fun _ call md k h =>
 k .normal (st 20 [(0, x0), (1, x1)]) h
 := fun _ _ _ _ _ _ => by kernel_rfl
theorem r47_1 (x0 x1 : AV) : RR O47 47 20 1 false [(0, x0), (1, x1)] fun _ call md k h =>
 bnd (aConv tab 3 105 x0 h) fun v1 =>
 bnd2 (call md 70 [.nils, v1] h) fun v2 h3 =>
 bnd (aLen tab 22 x1) fun v4 =>
 bnd (aConv tab 3 105 v4 h3) fun v5 =>
 bnd2 (call md 70 [v2, v5] h3) fun v6 h7 =>
 bnd2 (call md 71 [x1] h7) fun v8 h9 =>
 bnd2 (call md 70 [v6, v8] h9) fun v10 h11 =>
 k .normal (st 20 [(5, v10)]) h11
 := fun _ _ _ _ _ _ => by kernel_rfl
theorem r47_2 (x5 : AV) : RR O47 47 20 2 false [(5, x5)] fun _ call md k h =>
 bnd2 (call md 71 [x5] h) fun v1 h2 =>
 bnd2 (call md 70 [x5, v1] h2) fun v3 h4 =>
 k .normal (st 20 [(4, v3)]) h4
 := fun _ _ _ _ _ _ => by kernel_rfl
def R47 := And.intro @r47_0 <| And.intro @r47_1 <| @r47_2
end Go.Ax

set_option linter.unusedVariables false
namespace Go.Ax
open Go Go.Proofs
noncomputable def O52 (i : Nat) : Array Oper := opsOf i (bodyOf Try.f52)
theorem s52 : bodyOf Try.f52 = (.seq (.region 0 (O52 0) false) (.seq (.seq (.region 1 (O52 1) false) (.cond (Go.Operand.tmp 4) (.seq (.region 2 (O52 2) false) .ret) .skip)) (.seq (.region 3 (O52 3) false) .ret))) := by kernel_rfl
theorem e52 : E0 52 = some ⟨8, [2], bodyOf Try.f52⟩ := by kernel_rfl
theorem r52_0 (x0 : AV) : RR O52 52 8 0 false [(0, x0)] fun _ call md k h =>
 k .normal (st 8 [(0, x0)]) h
 := fun _ _ _ _ _ _ => by kernel_rfl
theorem r52_1 (x0 : AV) : RR O52 52 8 1 false [(0, x0)] fun _ call md k h =>
 bnd (aBinC tab .eql 22 x0 .nils true) fun v1 =>
 k .normal (st 8 [(0, x0), (4, v1)]) h
 := fun _ _ _ _ _ _ => by kernel_rfl
theorem r52_2 (x0 x4 : AV) : RR O52 52 8 2 false [(0, x0), (4, x4)] fun _ call md k h =>
 k .normal (st 8 [(2, .nils)]) h
 := fun _ _ _ _ _ _ => by kernel_rfl
theorem r52_3 (x0 x4 : AV) : RR O52 52 8 3 false [(0, x0), (4, x4)] fun _ call md k h =>
 bnd (aLit tab 22 0 []) fun v1 =>
 bnd2 (aApp tab 22 22 md v1 x0 h) fun v2 h3 =>
 k .normal (st 8 [(2, v2)]) h3
 := fun _ _ _ _ _ _ => by kernel_rfl
def R52 := And.intro @r52_0 <| And.intro @r52_1 <| And.intro @r52_2 <| @r52_3
end Go.Ax

namespace Go.Ax
open Go Go.Proofs
theorem lit22_4 (a b c d : UInt8) : aLit tab 22 4 [(0, U8 a), (1, U8 b), (2, U8 c), (3, U8 d)] = some (.vsl 5 [U8 a, U8 b, U8 c, U8 d] .exact) := by kernel_rfl
theorem lit22_0 : aLit tab 22 0 [] = some (.vsl 5 [] .exact) := by kernel_rfl
theorem app22 (x : AV) (new : List AV) (k : Tok) (h : Heap) : aApp tab 22 22 false x (.vsl 5 new k) h = aAppend tab 5 false x new h := by kernel_rfl
def byte (v : BitVec 32) : UInt8 := UInt8.ofBitVec (v.setWidth 8)
def be4 (v : BitVec 32) : List UInt8 := [byte (v >>> 24), byte (v >>> 16), byte (v >>> 8), byte v]
theorem conv_byte (v : BitVec 32) (h : Heap) : aConv tab 105 5 (U32 v) h = some (U8 (byte v)) := conv_32_8 h v
abbrev ApB (S : Obs) (h : Heap) (x : AV) (l : List UInt8) : Prop := Ap 5 S h x (l.map U8)
theorem Ap.bs {S : Obs} {h : Heap} {x : AV} {l : List UInt8} (a : ApB S h x l) : Bs x l := by
  rcases a with ⟨rfl, hl⟩ | ⟨k, rfl, -⟩
  · exact .inl ⟨rfl, by simpa using hl⟩
  · exact .inr ⟨k, rfl⟩
theorem ApB.append {S : Obs} {h : Heap} {x : AV} {l new : List UInt8} (a : ApB S h x l) (up : Up S h) (hne : new ≠ []) (hl : l.length + new.length < 2 ^ 40) :
    ∃ x' h', aAppend tab 5 false x (new.map U8) h = some (x', h') ∧ ApB S h' x' (l ++ new) ∧ Keep S h h' ∧ NoTok h h' := by
  have hu : Tab.und tab 5 = 5 := tu5
  obtain ⟨x', h', k, h1, h2, h3, h4, h5⟩ := Ap.append (T := tab) (e := 5) (S := S) (h := h) (x := x) (l := l.map U8) (new := new.map U8) (by rw [hu]; exact a) up (by simpa using hne) (by simp)
    (by simp; omega) (by simp; omega) (by simp)
  rw [hu, ← List.map_append] at h3
  exact ⟨x', h', h1, h3, h4, h5⟩
theorem put_ok {S : Obs} {h : Heap} {x : AV} {l : List UInt8} (a : ApB S h x l) (up : Up S h) (hl : l.length < 2 ^ 39) (v : BitVec 32) (k : Nat) :
    ∃ x' h', exFn C0 E0 (k + 1) false 70 [x, U32 v] h = some (x', h') ∧ ApB S h' x' (l ++ be4 v) ∧ Keep S h h' := by
  obtain ⟨x', h', h1, h2, h3, -⟩ := a.append up (new := be4 v) (by simp [be4]) (by simp [be4]; omega)
  refine ⟨x', h', exFn_of e70 ?_, h2, h3⟩
  rw [fnK, show ([x, U32 v] ++ List.replicate (19 - [x, U32 v].length) AV.undef) = st 19 [(0, x), (1, U32 v)] from rfl, s70]
  have c1 := u32_shr tab 105 v true 24 (by decide)
  have c2 := u32_shr tab 105 v true 16 (by decide)
  have c3 := u32_shr tab 105 v true 8 (by decide)
  simp only [Int.cast_ofNat_Int] at c1 c2 c3
  simp -implicitDefEqProofs only [↓RK, RK, ↓RB, RB, decide_true, decide_false, STs, Nat.reduceBEq, ↓reduceIte, Nat.reduceLT, ↓R70, R70, c1, c2, c3, conv_byte, lit22_4, app22]
  rw [show [U8 (byte (v >>> 24)), U8 (byte (v >>> 16)), U8 (byte (v >>> 8)), U8 (byte v)] = (be4 v).map U8 from rfl, h1]
  simp -implicitDefEqProofs only [↓RK, RK, ↓RB, RB, decide_true, decide_false, STs, Nat.reduceBEq, ↓reduceIte, Nat.reduceLT]
def sizeOf (n : Int) : Int := 1 + (max n 0 + 63) / 64
theorem max2_i64 (a b : Int) : aMax [.int .i64 a, .int .i64 b] = some (.int .i64 (if a < b then b else a)) := by
  kernel_rfl
theorem min2_i64 (a b : Int) : aMin [.int .i64 a, .int .i64 b] = some (.int .i64 (if b < a then b else a)) := by
  kernel_rfl
theorem size_ok (n : Int) (hn : n < 2 ^ 62) (md : Bool) (h : Heap) (k : Nat) : exFn C0 E0 (k + 1) md 45 [.int .i64 n] h = some (.int .i64 (sizeOf n), h) := by
  refine exFn_of e45 ?_
  rw [fnK, show ([AV.int .i64 n] ++ List.replicate (9 - [AV.int .i64 n].length) AV.undef) = st 9 [(0, .int .i64 n)] from rfl, s45]
  have hm : 0 ≤ (if n < 0 then 0 else n) ∧ (if n < 0 then 0 else n) < 2 ^ 62 ∧ (if n < 0 then 0 else n) = max n 0 := by split <;> omega
  obtain ⟨m1, m2, m3⟩ := hm
  have w1 : IntKind.i64.wrap ((if n < 0 then 0 else n) + 64) = (if n < 0 then 0 else n) + 64 := wrap_i64 (by omega) (by omega)
  have w2 : IntKind.i64.wrap ((if n < 0 then 0 else n) + 64 - 1) = (if n < 0 then 0 else n) + 63 := by rw [wrap_i64] <;> omega
  have w3 : IntKind.i64.wrap (((if n < 0 then 0 else n) + 63).tdiv 64) = (max n 0 + 63) / 64 := by
    rw [m3, Int.tdiv_eq_ediv_of_nonneg (by omega)]; exact wrap_i64 (by omega) (by omega)
  have w4 : IntKind.i64.wrap (1 + (max n 0 + 63) / 64) = sizeOf n := wrap_i64 (by omega) (by omega)
  simp -implicitDefEqProofs only [↓RK, RK, ↓RB, RB, decide_true, decide_false, STs, Nat.reduceBEq, ↓reduceIte, Nat.reduceLT, ↓R45, R45, max2_i64, bin_add, bin_sub, w1, w2, bin_quo tab 3 .i64 _ 64 true (by decide), w3, w4]
def head12 (g : BitVec 32) (l : List UInt8) : List UInt8 := be4 g ++ be4 (BitVec.ofNat 32 l.length) ++ be4 (crc l)
def head16 (g : BitVec 32) (l : List UInt8) : List UInt8 := head12 g l ++ be4 (crc (head12 g l))
theorem first_ok {x : AV} {l : List UInt8} (hx : Bs x l) (hl : l.length < 2 ^ 31) (gen : Int) (h : Heap) (k : Nat) (hk : l.length + 30 < k) :
    ∃ x' h', exFn C0 E0 (k + 1) false 47 [.int .i64 gen, x] h = some (x', h') ∧ ApB (From h.length) h' x' (head16 (BitVec.ofInt 32 gen) l) ∧ Keep (From h.length) h h' := by
  obtain ⟨k, rfl⟩ : ∃ j, k = j + 1 := ⟨k - 1, by omega⟩
  have up := Up.fresh h
  have a0 : ApB (From h.length) h .nils [] := .inl ⟨rfl, rfl⟩
  obtain ⟨x1, h1, p1, a1, k1⟩ := put_ok a0 up (by simp) (BitVec.ofInt 32 gen) k
  obtain ⟨x2, h2, p2, a2, k2⟩ := put_ok a1 (up.keep k1) (by simp [be4]) (BitVec.ofNat 32 l.length) k
  obtain ⟨x3, h3, p3, a3, k3⟩ := put_ok a2 ((up.keep k1).keep k2) (by simp [be4]) (crc l) k
  obtain ⟨x4, h4, p4, a4, k4⟩ := put_ok a3 (((up.keep k1).keep k2).keep k3) (by simp [be4]) (crc (head12 (BitVec.ofInt 32 gen) l)) k
  have s1 := sum_of hx (by omega) false h2 (k + 1) (by omega)
  have s2 := sum_of a3.bs (by simp [be4]) false h3 (k + 1) (by simp [be4]; omega)
  refine ⟨x4, h4, exFn_of e47 ?_, by simpa [head16, head12] using a4, ((k1.trans k2).trans k3).trans k4⟩
  rw [fnK, show ([AV.int .i64 gen, x] ++ List.replicate (20 - [AV.int .i64 gen, x].length) AV.undef) = st 20 [(0, .int .i64 gen), (1, x)] from rfl, s47]
  have c1 := conv_64_32 h1 (l.length : Int)
  rw [show BitVec.ofInt 32 ((l.length : Nat) : Int) = BitVec.ofNat 32 l.length from by simp] at c1
  simp -implicitDefEqProofs only [↓RK, RK, ↓RB, RB, decide_true, decide_false, STs, Nat.reduceBEq, ↓reduceIte, Nat.reduceLT, ↓R47, R47, conv_64_32 h gen, p1, hx.len, c1, p2, s1, p3]
  rw [s2, bnd2_s]
  rw [show ([] ++ be4 (BitVec.ofInt 32 gen) ++ be4 (BitVec.ofNat 32 l.length) ++ be4 (crc l)) = head12 (BitVec.ofInt 32 gen) l from by simp [head12]]
  simp -implicitDefEqProofs only [↓RK, RK, ↓RB, RB, decide_true, decide_false, STs, Nat.reduceBEq, ↓reduceIte, Nat.reduceLT, p4]
theorem slice22_to (l : List AV) (k : Tok) (n : Nat) (hn : n ≤ l.length) : aSlice tab 22 (.vsl 5 l k) none (some (.int .i64 n)) none = some (.vsl 5 (l.take n) (if n = l.length then k else .none)) := by
  simp [aSlice, aBounds, aBound, cutTok, hn]
end Go.Ax

namespace Go.Ax
open Go Go.Proofs
def getB (v : BitVec 32) (c : UInt8) : BitVec 32 := (v <<< 8) ||| c.toBitVec.setWidth 32
def get4 (l : List UInt8) : BitVec 32 := (l.take 4).foldl getB 0#32
theorem get4_be4 (v : BitVec 32) (r : List UInt8) : get4 (be4 v ++ r) = v := by
  simp only [get4, be4, List.cons_append, List.nil_append, List.take_succ_cons, List.take_zero, List.foldl_cons, List.foldl_nil, getB, byte]
  apply BitVec.eq_of_getLsbD_eq
  intro i hi
  obtain rfl | rfl | rfl | rfl | rfl | rfl | rfl | rfl | rfl | rfl | rfl | rfl | rfl | rfl | rfl | rfl | rfl | rfl | rfl | rfl | rfl | rfl | rfl | rfl | rfl | rfl | rfl | rfl | rfl | rfl | rfl | rfl : i = 0 ∨ i = 1 ∨ i = 2 ∨ i = 3 ∨ i = 4 ∨ i = 5 ∨ i = 6 ∨ i = 7 ∨ i = 8 ∨ i = 9 ∨ i = 10 ∨ i = 11 ∨ i = 12 ∨ i = 13 ∨ i = 14 ∨ i = 15 ∨ i = 16 ∨ i = 17 ∨ i = 18 ∨ i = 19 ∨ i = 20 ∨ i = 21 ∨ i = 22 ∨ i = 23 ∨ i = 24 ∨ i = 25 ∨ i = 26 ∨ i = 27 ∨ i = 28 ∨ i = 29 ∨ i = 30 ∨ i = 31 := by omega
  all_goals simp
theorem Bs.to {x : AV} {l : List UInt8} (hx : Bs x l) (n : Nat) (hn : n ≤ l.length) : ∃ y, aSlice tab 22 x none (some (.int .i64 n)) none = some y ∧ Bs y (l.take n) := by
  rcases hx with ⟨rfl, rfl⟩ | ⟨k, rfl⟩
  · refine ⟨.nils, ?_, .inl ⟨rfl, by simp⟩⟩
    have : n = 0 := by simpa using hn
    subst this
    rfl
  · refine ⟨_, slice22_to _ k n (by simpa using hn), .inr ⟨_, by rw [List.map_take]⟩⟩
theorem loop72 (call : CallF) (md : Bool) (N : Nat) (x : AV) (l : List UInt8) (hx : Bs x l) (h : Heap) (K : Ex → List AV → Heap → Option (AV × Heap)) (r : AV × Heap) :
    ∀ (m n i : Nat) (v : BitVec 32), i + m = l.length → m < n → l.length < 2 ^ 62 →
    (∀ y z, K (.exit 0) (st 23 [(3, U32 ((l.drop i).foldl getB v)), (10, x), (11, y), (12, z), (13, .bool false)]) h = some r) →
    loopK (fun next => runK C0 call md 72 N B72_1 (seqE next K)) n (st 23 [(3, U32 v), (10, x), (11, .int .i64 l.length), (12, .int .i64 i)]) h = some r := by
  intro m
  induction m with
  | zero =>
    intro n i v him hn hl hK
    cases n with
    | zero => omega
    | succ n =>
      rw [loopK_succ]
      generalize loopK (fun next => runK C0 call md 72 N B72_1 (seqE next K)) n = L
      have e : decide ((i : Int) < (l.length : Int)) = false := by simp; omega
      simp -implicitDefEqProofs only [B72_1, ↓RK, RK, r72_3, bin_lss, ↓RB, RB, decide_true, decide_false, STs, Nat.reduceBEq, ↓reduceIte, Nat.reduceLT, e]
      have := hK (.int .i64 l.length) (.int .i64 i)
      rw [List.drop_eq_nil_of_le (by omega)] at this
      exact this
  | succ m ih =>
    intro n i v him hn hl hK
    cases n with
    | zero => omega
    | succ n =>
      obtain ⟨b, hb⟩ : ∃ b, l[i]? = some b := ⟨l[i], List.getElem?_eq_getElem (by omega)⟩
      have hd : l.drop i = b :: l.drop (i + 1) := by
        obtain ⟨h1, h2⟩ := List.getElem?_eq_some_iff.1 hb
        rw [← h2]; exact List.drop_eq_getElem_cons h1
      rw [loopK_succ]
      rw [hd] at hK
      have ih' := ih n (i + 1) (getB v b) (by omega) (by omega) hl hK
      generalize loopK (fun next => runK C0 call md 72 N B72_1 (seqE next K)) n = L at ih' ⊢
      have e : decide ((i : Int) < (l.length : Int)) = true := by simp; omega
      have c1 := u32_shl tab 105 v true 8 (by decide)
      simp only [Int.cast_ofNat_Int] at c1
      have e3 : IntKind.i64.wrap ((i : Int) + 1) = ((i + 1 : Nat) : Int) := by rw [wrap_i64] <;> omega
      simp -implicitDefEqProofs only [B72_1, ↓RK, RK, r72_3, r72_4, r72_5, r72_6, bin_lss, ↓RB, RB, decide_true, decide_false, STs, Nat.reduceBEq, ↓reduceIte, Nat.reduceLT, e, hx.idx hb, load5, conv_8_32, c1, u32_or, bin_add, e3]
      exact ih'
theorem get_ok {x : AV} {l : List UInt8} (hx : Bs x l) (hl : 4 ≤ l.length) (hl2 : l.length < 2 ^ 62) (md : Bool) (h : Heap) (k : Nat) (hk : 5 < k) : exFn C0 E0 k md 72 [x] h = some (U32 (get4 l), h) := by
  obtain ⟨k, rfl⟩ : ∃ j, k = j + 1 := ⟨k - 1, by omega⟩
  refine exFn_of e72 ?_
  rw [fnK, show ([x] ++ List.replicate (23 - [x].length) AV.undef) = st 23 [(0, x)] from rfl, s72]
  have c1 : AV.int .u32 0 = U32 0#32 := u32_lit 0 (by decide)
  have m1 : (if (4 : Int) < (l.length : Int) then (4 : Int) else (l.length : Int)) = 4 := by split <;> omega
  obtain ⟨y, hy, hby⟩ := hx.to 4 hl
  simp only [Int.cast_ofNat_Int] at hy
  have hlen : (l.take 4).length = 4 := by simp; omega
  have hly := hby.len
  simp -implicitDefEqProofs only [↓RK, RK, ↓RB, RB, decide_true, decide_false, STs, Nat.reduceBEq, ↓reduceIte, Nat.reduceLT, r72_0, r72_1, r72_2, hx.len, c1, min2_i64, m1, hy, hly]
  refine loop72 _ md k y _ hby h _ _ 4 k 0 _ (by omega) (by omega) (by omega) fun y z => ?_
  simp -implicitDefEqProofs only [↓RK, RK, ↓RB, RB, decide_true, decide_false, STs, Nat.reduceBEq, ↓reduceIte, Nat.reduceLT, r72_7, List.drop_zero]
  rfl
end Go.Ax

set_option linter.unusedVariables false
namespace Go.Ax
open Go Go.Proofs
noncomputable def O73 (i : Nat) : Array Oper := opsOf i (bodyOf Try.f73)
theorem s73 : bodyOf Try.f73 = (.seq (.region 0 (O73 0) false) (.seq (.region 1 (O73 1) false) .ret)) := by kernel_rfl
theorem e73 : E0 73 = some ⟨10, [4], bodyOf Try.f73⟩ := by kernel_rfl
theorem r73_0 (x0 x1 : AV) : RR O73 73 10 0 false [(0, x0), (1, x1)] fun _ call md k h =>
 k .normal (st 10 [(0, x0), (1, x1)]) h
 := fun _ _ _ _ _ _ => by kernel_rfl
theorem r73_1 (x0 x1 : AV) : RR O73 73 10 1 false [(0, x0), (1, x1)] fun _ call md k h =>
 bnd (aConv tab 22 9 x0 h) fun v1 =>
 bnd (aConv tab 22 9 x1 h) fun v2 =>
 bnd (aBinC tab .eql 9 v1 v2 false) fun v3 =>
 k .normal (st 10 [(4, v3)]) h
 := fun _ _ _ _ _ _ => by kernel_rfl
def R73 := And.intro @r73_0 <| @r73_1
end Go.Ax

set_option linter.unusedVariables false
namespace Go.Ax
open Go Go.Proofs
noncomputable def O74 (i : Nat) : Array Oper := opsOf i (bodyOf Try.f74)
noncomputable def B74_1 : Code := (.block 1 (.seq (.region 6 (O74 6) false) (.seq (.seq (.region 7 (O74 7) false) (.cond (Go.Operand.tmp 25) (.seq (.region 8 (O74 8) false) .ret) .skip)) (.seq (.region 9 (O74 9) false) (.region 10 (O74 10) false)))))
theorem s74 : bodyOf Try.f74 = (.seq (.region 0 (O74 0) false) (.seq (.seq (.region 1 (O74 1) false) (.cond (Go.Operand.tmp 9) (.seq (.region 2 (O74 2) false) .ret) .skip)) (.seq (.seq (.region 3 (O74 3) false) (.cond (Go.Operand.tmp 15) (.seq (.region 4 (O74 4) false) .ret) .skip)) (.seq (.region 5 (O74 5) false) (.block 0 (.loop B74_1)))))) := by kernel_rfl
theorem e74 : E0 74 = some ⟨35, [4], bodyOf Try.f74⟩ := by kernel_rfl
theorem r74_0 (x0 x1 : AV) : RR O74 74 35 0 false [(0, x0), (1, x1)] fun _ call md k h =>
 k .normal (st 35 [(0, x0), (1, x1)]) h
 := fun _ _ _ _ _ _ => by kernel_rfl
theorem r74_1 (x0 x1 : AV) : RR O74 74 35 1 false [(0, x0), (1, x1)] fun _ call md k h =>
 bnd (aLen tab 22 x1) fun v1 =>
 bnd (aBinC tab .eql 3 v1 (.int .i64 0) true) fun v2 =>
 k .normal (st 35 [(0, x0), (1, x1), (9, v2)]) h
 := fun _ _ _ _ _ _ => by kernel_rfl
theorem r74_2 (x0 x1 x9 : AV) : RR O74 74 35 2 false [(0, x0), (1, x1), (9, x9)] fun _ call md k h =>
 bnd2 (call md 77 [x0] h) fun v1 h2 =>
 bnd (aBinC tab .add 3 v1 (.int .i64 1) true) fun v3 =>
 k .normal (st 35 [(4, v3)]) h2
 := fun _ _ _ _ _ _ => by kernel_rfl
theorem r74_3 (x0 x1 x9 : AV) : RR O74 74 35 3 false [(0, x0), (1, x1), (9, x9)] fun _ call md k h =>
 bnd (aLen tab 22 x1) fun v1 =>
 bnd (aBinC tab .eql 3 v1 (.int .i64 1) true) fun v2 =>
 k .normal (st 35 [(0, x0), (1, x1), (15, v2)]) h
 := fun _ _ _ _ _ _ => by kernel_rfl
theorem r74_4 (x0 x1 x15 : AV) : RR O74 74 35 4 false [(0, x0), (1, x1), (15, x15)] fun _ call md k h =>
 bnd (aIndexAddr tab 22 x1 (.int .i64 0)) fun v1 =>
 bnd (aLoad tab 5 v1 h) fun v2 =>
 bnd2 (call md 78 [x0, v2] h) fun v3 h4 =>
 k .normal (st 35 [(4, v3)]) h4
 := fun _ _ _ _ _ _ => by kernel_rfl
theorem r74_5 (x0 x1 x15 : AV) : RR O74 74 35 5 false [(0, x0), (1, x1), (15, x15)] fun _ call md k h =>
 k .normal (st 35 [(0, x0), (1, x1), (5, (.int .i64 0))]) h
 := fun _ _ _ _ _ _ => by kernel_rfl
theorem r74_6 (x0 x1 x5 : AV) : RR O74 74 35 6 false [(0, x0), (1, x1), (5, x5)] fun _ call md k h =>
 bnd2 (call md 79 [x0, x1] h) fun v1 h2 =>
 k .normal (st 35 [(0, x0), (1, x1), (5, x5), (6, v1)]) h2
 := fun _ _ _ _ _ _ => by kernel_rfl
theorem r74_7 (x0 x1 x5 x6 : AV) : RR O74 74 35 7 false [(0, x0), (1, x1), (5, x5), (6, x6)] fun _ call md k h =>
 bnd (aBinC tab .eql 3 x6 (.int .i64 (-1)) true) fun v1 =>
 k .normal (st 35 [(0, x0), (1, x1), (5, x5), (6, x6), (25, v1)]) h
 := fun _ _ _ _ _ _ => by kernel_rfl
theorem r74_8 (x0 x1 x5 x6 x25 : AV) : RR O74 74 35 8 false [(0, x0), (1, x1), (5, x5), (6, x6), (25, x25)] fun _ call md k h =>
 k .normal (st 35 [(4, x5)]) h
 := fun _ _ _ _ _ _ => by kernel_rfl
theorem r74_9 (x0 x1 x5 x6 x25 : AV) : RR O74 74 35 9 false [(0, x0), (1, x1), (5, x5), (6, x6), (25, x25)] fun _ call md k h =>
 bnd (aBinC tab .add 3 x5 (.int .i64 1) true) fun v1 =>
 k .normal (st 35 [(0, x0), (1, x1), (5, v1), (6, x6)]) h
 := fun _ _ _ _ _ _ => by kernel_rfl
theorem r74_10 (x0 x1 x5 x6 : AV) : RR O74 74 35 10 false [(0, x0), (1, x1), (5, x5), (6, x6)] fun _ call md k h =>
 bnd (aLen tab 22 x1) fun v1 =>
 bnd (aBinC tab .add 3 x6 v1 false) fun v2 =>
 bnd (aSlice tab 22 x0 (some v2) none none) fun v3 =>
 k .normal (st 35 [(0, v3), (1, x1), (5, x5)]) h
 := fun _ _ _ _ _ _ => by kernel_rfl
def R74 := And.intro @r74_0 <| And.intro @r74_1 <| And.intro @r74_2 <| And.intro @r74_3 <| And.intro @r74_4 <| And.intro @r74_5 <| And.intro @r74_6 <| And.intro @r74_7 <| And.intro @r74_8 <| And.intro @r74_9 <| @r74_10
end Go.Ax

set_option linter.unusedVariables false
namespace Go.Ax
open Go Go.Proofs
noncomputable def O51 (i : Nat) : Array Oper := opsOf i (bodyOf Try.f51)
theorem s51 : bodyOf Try.f51 = (.seq (.region 0 (O51 0) false) (.seq (.region 1 (O51 1) false) .ret)) := by kernel_rfl
theorem e51 : E0 51 = some ⟨9, [2], bodyOf Try.f51⟩ := by kernel_rfl
theorem r51_0 (x0 : AV) : RR O51 51 9 0 false [(0, x0)] fun _ call md k h =>
 k .normal (st 9 [(0, x0)]) h
 := fun _ _ _ _ _ _ => by kernel_rfl
theorem r51_1 (x0 : AV) : RR O51 51 9 1 false [(0, x0)] fun _ call md k h =>
 bnd (aLit tab 22 1 [(0, (.int .u8 0))]) fun v1 =>
 bnd2 (call md 74 [x0, v1] h) fun v2 h3 =>
 bnd (aLen tab 22 x0) fun v4 =>
 bnd (aBinC tab .eql 3 v2 v4 false) fun v5 =>
 k .normal (st 9 [(2, v5)]) h3
 := fun _ _ _ _ _ _ => by kernel_rfl
def R51 := And.intro @r51_0 <| @r51_1
end Go.Ax

namespace Go.Ax
open Go Go.Proofs
theorem bytesOf_U8 : ∀ (l : List UInt8), bytesOf (l.map U8) = some l
  | [] => rfl
  | b :: l => by simp [bytesOf, U8, bytesOf_U8 l]
theorem Bs.elems {x : AV} {l : List UInt8} (hx : Bs x l) (h : Heap) : (slElems h x).bind bytesOf = some l := by
  rcases hx with ⟨rfl, rfl⟩ | ⟨k, rfl⟩
  · rfl
  · simp [slElems, bytesOf_U8]
theorem Bs.str {x : AV} {l : List UInt8} (hx : Bs x l) (h : Heap) : aConv tab 22 9 x h = some (.str ⟨l.toArray⟩) := by
  have := hx.elems h
  simp only [aConv, td22, td9, td5, this, if_true]
theorem str_eql (T : Tab) (t : Ty) (a b : ByteArray) (c : Bool) : aBinC T .eql t (.str a) (.str b) c = some (.bool (a.toList == b.toList)) := by
  simp [aBinC, aBin, Go.binOp, Op.stringOp, ofPure, pure]
theorem toList_mk (l : List UInt8) : (⟨l.toArray⟩ : ByteArray).toList = l := by
  rw [ByteArray.toList_eq]
theorem equal_ok {x y : AV} {l m : List UInt8} (hx : Bs x l) (hy : Bs y m) (md : Bool) (h : Heap) (k : Nat) : exFn C0 E0 (k + 1) md 73 [x, y] h = some (.bool (decide (l = m)), h) := by
  refine exFn_of e73 ?_
  rw [fnK, show ([x, y] ++ List.replicate (10 - [x, y].length) AV.undef) = st 10 [(0, x), (1, y)] from rfl, s73]
  simp -implicitDefEqProofs only [↓RK, RK, ↓RB, RB, decide_true, decide_false, STs, Nat.reduceBEq, ↓reduceIte, Nat.reduceLT, ↓R73, R73, hx.str h, hy.str h, str_eql, toList_mk]
  rw [show (l == m) = decide (l = m) from by by_cases e : l = m <;> simp [e]]
theorem count78 {x : AV} {l : List UInt8} (hx : Bs x l) (b : UInt8) (md : Bool) (h : Heap) (k : Nat) : exFn C0 E0 (k + 1) md 78 [x, U8 b] h = some (.int .i64 (l.count b : Nat), h) := by
  rw [exFn_cnt e78 rfl]
  simp only [aCount, U8, hx.elems h]
  simp
theorem lit22_1 (a : AV) (ha : fits tab 5 a = true) : aLit tab 22 1 [(0, a)] = some (.vsl 5 [a] .exact) := by
  simp [aLit, aElems, aFill, ha]
theorem count_ok {x : AV} {l : List UInt8} (hx : Bs x l) (md : Bool) (h : Heap) (b : UInt8) (tk : Tok) (k : Nat) : exFn C0 E0 (k + 2) md 74 [x, .vsl 5 [U8 b] tk] h = some (.int .i64 (l.count b : Nat), h) := by
  refine exFn_of e74 ?_
  rw [fnK, show ([x, .vsl 5 [U8 b] tk] ++ List.replicate (35 - [x, .vsl 5 [U8 b] tk].length) AV.undef) = st 35 [(0, x), (1, .vsl 5 [U8 b] tk)] from rfl, s74]
  have i0 : aIndexAddr tab 22 (.vsl 5 [U8 b] tk) (.int .i64 0) = some (.vptr 5 (U8 b)) := by simp [aIndexAddr]
  have d1 : decide (((([U8 b] : List AV).length : Nat) : Int) = 0) = false := by simp
  have d2 : decide (((([U8 b] : List AV).length : Nat) : Int) = 1) = true := by simp
  simp -implicitDefEqProofs only [↓RK, RK, ↓RB, RB, decide_true, decide_false, STs, Nat.reduceBEq, ↓reduceIte, Nat.reduceLT, ↓R74, R74, len22, bin_eql, d1, d2, i0, load5, count78 hx]
theorem zero_ok {x : AV} {l : List UInt8} (hx : Bs x l) (md : Bool) (h : Heap) (k : Nat) : exFn C0 E0 (k + 3) md 51 [x] h = some (.bool (l.all (· == 0)), h) := by
  refine exFn_of e51 ?_
  rw [fnK, show ([x] ++ List.replicate (9 - [x].length) AV.undef) = st 9 [(0, x)] from rfl, s51]
  have c0 : AV.int .u8 0 = U8 0 := rfl
  have e : decide (((l.count 0 : Nat) : Int) = ((l.length : Nat) : Int)) = l.all (· == 0) := by
    rw [Bool.eq_iff_iff]
    simp only [decide_eq_true_eq, Int.natCast_inj, List.all_eq_true, List.count_eq_length, beq_iff_eq]
    exact ⟨fun h x hx => (h x hx).symm, fun h x hx => (h x hx).symm⟩
  simp -implicitDefEqProofs only [↓RK, RK, ↓RB, RB, decide_true, decide_false, STs, Nat.reduceBEq, ↓reduceIte, Nat.reduceLT, ↓R51, R51, c0, lit22_1 (U8 0) rfl, count_ok hx, hx.len, bin_eql, e]
end Go.Ax

set_option linter.unusedVariables false
namespace Go.Ax
open Go Go.Proofs
noncomputable def O13 (i : Nat) : Array Oper := opsOf i (bodyOf Try.f13)
theorem s13 : bodyOf Try.f13 = (.seq (.region 0 (O13 0) false) (.seq (.region 1 (O13 1) false) .ret)) := by kernel_rfl
theorem e13 : E0 13 = some ⟨9, [2], bodyOf Try.f13⟩ := by kernel_rfl
theorem r13_0 (x0 : AV) : RR O13 13 9 0 false [(0, x0)] fun _ call md k h =>
 k .normal (st 9 [(0, x0)]) h
 := fun _ _ _ _ _ _ => by kernel_rfl
theorem r13_1 (x0 : AV) : RR O13 13 9 1 false [(0, x0)] fun _ call md k h =>
 bnd (aMax [x0, (.int .i64 0)]) fun v1 =>
 bnd (aMin [v1, (.int .i64 1024)]) fun v2 =>
 bnd2 (aMake tab 81 v2 v2 h) fun v3 h4 =>
 bnd (aBuild tab 84 [(0, v3), (2, (.int .i64 (-1)))]) fun v5 =>
 bnd2 (aBoxv tab 84 v5 h4) fun v6 h7 =>
 k .normal (st 9 [(2, v6)]) h7
 := fun _ _ _ _ _ _ => by kernel_rfl
def R13 := And.intro @r13_0 <| @r13_1
end Go.Ax

set_option linter.unusedVariables false
namespace Go.Ax
open Go Go.Proofs
noncomputable def O17 (i : Nat) : Array Oper := opsOf i (bodyOf Try.f17)
theorem s17 : bodyOf Try.f17 = (.seq (.region 0 (O17 0) false) (.seq (.seq (.region 1 (O17 1) false) (.cond (Go.Operand.tmp 16) (.seq (.region 2 (O17 2) false) .ret) .skip)) (.seq (.seq (.region 3 (O17 3) false) (.cond (Go.Operand.tmp 19) (.seq (.region 4 (O17 4) false) .ret) .skip)) (.seq (.region 5 (O17 5) false) (.seq (.region 6 (O17 6) false) (.seq (.region 7 (O17 7) true) (.seq (.region 8 (O17 8) false) .ret))))))) := by kernel_rfl
theorem e17 : E0 17 = some ⟨36, [6], bodyOf Try.f17⟩ := by kernel_rfl
theorem r17_0 (x0 x1 x2 : AV) : RR O17 17 36 0 false [(0, x0), (1, x1), (2, x2)] fun _ call md k h =>
 k .normal (st 36 [(0, x0), (1, x1), (2, x2)]) h
 := fun _ _ _ _ _ _ => by kernel_rfl
theorem r17_1 (x0 x1 x2 : AV) : RR O17 17 36 1 false [(0, x0), (1, x1), (2, x2)] fun _ call md k h =>
 bnd2 (call md 49 [x0, x1] h) fun v1 h2 =>
 bnd (aUn .not v1) fun v3 =>
 gd false v3 h2 (fun k => k x2 h2) fun v4 h5 =>
 gd false v3 h5 (fun k => bnd (aLen tab 22 v4) (k · h5)) fun v6 h7 =>
 gd false v3 h7 (fun k => bnd (aBinC tab .gtr 3 v6 (.int .i64 64) true) (k · h7)) fun v8 h9 =>
 bnd (aPick v3 (.bool true) v8) fun v10 =>
 k .normal (st 36 [(0, x0), (1, x1), (2, x2), (16, v10)]) h9
 := fun _ _ _ _ _ _ => by kernel_rfl
theorem r17_2 (x0 x1 x2 x16 : AV) : RR O17 17 36 2 false [(0, x0), (1, x1), (2, x2), (16, x16)] fun _ call md k h =>
 k .normal (st 36 [(6, (.int .i64 1))]) h
 := fun _ _ _ _ _ _ => by kernel_rfl
theorem r17_3 (x0 x1 x2 x16 : AV) : RR O17 17 36 3 false [(0, x0), (1, x1), (2, x2), (16, x16)] fun _ call md k h =>
 bnd2 (call md 50 [x0] h) fun v1 h2 =>
 bnd (aUn .not v1) fun v3 =>
 k .normal (st 36 [(0, x0), (1, x1), (2, x2), (19, v3)]) h2
 := fun _ _ _ _ _ _ => by kernel_rfl
theorem r17_4 (x0 x1 x2 x19 : AV) : RR O17 17 36 4 false [(0, x0), (1, x1), (2, x2), (19, x19)] fun _ call md k h =>
 k .normal (st 36 [(6, (.int .i64 4))]) h
 := fun _ _ _ _ _ _ => by kernel_rfl
theorem r17_5 (x0 x1 x2 x19 : AV) : RR O17 17 36 5 false [(0, x0), (1, x1), (2, x2), (19, x19)] fun _ call md k h =>
 bnd (aBuild tab 91 [(0, x1)]) fun v1 =>
 bnd2 (aAlloc tab 91 h) fun v2 h3 =>
 bnd (aStore tab 91 v2 v1 h3) fun h4 =>
 k .normal (st 36 [(0, x0), (2, x2), (7, v2)]) h4
 := fun _ _ _ _ _ _ => by kernel_rfl
theorem r17_6 (x0 x2 x7 : AV) : RR O17 17 36 6 false [(0, x0), (2, x2), (7, x7)] fun _ call md k h =>
 bnd (aFieldAddr tab 91 x7 1) fun v1 =>
 bnd (aSlice tab 89 v1 none none none) fun v2 =>
 bnd2 (aCpy tab 22 v2 x2 h) fun v3 h4 =>
 k .normal (st 36 [(0, x0), (7, x7)]) h4
 := fun _ _ _ _ _ _ => by kernel_rfl
theorem r17_7 (x0 x7 : AV) : RR O17 17 36 7 true [(0, x0), (7, x7)] fun _ call md k h =>
 bnd (aNil x0) fun v1 =>
 bnd (aFieldAddr tab 84 v1 1) fun v2 =>
 bnd (aLoad tab 82 v2 h) fun v3 =>
 bnd (aLoad tab 91 x7 h) fun v4 =>
 bnd (aLit tab 82 1 [(0, v4)]) fun v5 =>
 bnd2 (aApp tab 82 82 md v3 v5 h) fun v6 h7 =>
 bnd (aNil x0) fun v8 =>
 bnd (aFieldAddr tab 84 v8 1) fun v9 =>
 bnd (aStore tab 82 v9 v6 h7) fun h10 =>
 k .normal (st 36 []) h10
 := RRd (by kernel_rfl) (by kernel_rfl) (fun _ _ _ _ _ => by kernel_rfl)
theorem r17_8 : RR O17 17 36 8 false [] fun _ call md k h =>
 k .normal (st 36 [(6, (.int .i64 0))]) h
 := fun _ _ _ _ _ _ => by kernel_rfl
def R17 := And.intro @r17_0 <| And.intro @r17_1 <| And.intro @r17_2 <| And.intro @r17_3 <| And.intro @r17_4 <| And.intro @r17_5 <| And.intro @r17_6 <| And.intro @r17_7 <| @r17_8
end Go.Ax

set_option linter.unusedVariables false
namespace Go.Ax
open Go Go.Proofs
noncomputable def O46 (i : Nat) : Array Oper := opsOf i (bodyOf Try.f46)
theorem s46 : bodyOf Try.f46 = (.seq (.region 0 (O46 0) false) (.seq (.seq (.region 1 (O46 1) false) (.cond (Go.Operand.tmp 4) (.seq (.region 2 (O46 2) false) .ret) .skip)) (.seq (.region 3 (O46 3) false) .ret))) := by kernel_rfl
theorem e46 : E0 46 = some ⟨10, [2], bodyOf Try.f46⟩ := by kernel_rfl
theorem r46_0 (x0 : AV) : RR O46 46 10 0 false [(0, x0)] fun _ call md k h =>
 k .normal (st 10 [(0, x0)]) h
 := fun _ _ _ _ _ _ => by kernel_rfl
theorem r46_1 (x0 : AV) : RR O46 46 10 1 false [(0, x0)] fun _ call md k h =>
 bnd (aBinC tab .eql 25 x0 .nilp true) fun v1 =>
 k .normal (st 10 [(0, x0), (4, v1)]) h
 := fun _ _ _ _ _ _ => by kernel_rfl
theorem r46_2 (x0 x4 : AV) : RR O46 46 10 2 false [(0, x0), (4, x4)] fun _ call md k h =>
 k .normal (st 10 [(2, (.int .i64 0))]) h
 := fun _ _ _ _ _ _ => by kernel_rfl
theorem r46_3 (x0 x4 : AV) : RR O46 46 10 3 false [(0, x0), (4, x4)] fun _ call md k h =>
 bnd (aNil x0) fun v1 =>
 bnd (aFieldAddr tab 84 v1 0) fun v2 =>
 bnd (aLoad tab 81 v2 h) fun v3 =>
 bnd (aLen tab 81 v3) fun v4 =>
 k .normal (st 10 [(2, v4)]) h
 := fun _ _ _ _ _ _ => by kernel_rfl
def R46 := And.intro @r46_0 <| And.intro @r46_1 <| And.intro @r46_2 <| @r46_3
end Go.Ax

set_option linter.unusedVariables false
namespace Go.Ax
open Go Go.Proofs
noncomputable def O49 (i : Nat) : Array Oper := opsOf i (bodyOf Try.f49)
theorem s49 : bodyOf Try.f49 = (.seq (.region 0 (O49 0) false) (.seq (.region 1 (O49 1) false) .ret)) := by kernel_rfl
theorem e49 : E0 49 = some ⟨13, [4], bodyOf Try.f49⟩ := by kernel_rfl
theorem r49_0 (x0 x1 : AV) : RR O49 49 13 0 false [(0, x0), (1, x1)] fun _ call md k h =>
 k .normal (st 13 [(0, x0), (1, x1)]) h
 := fun _ _ _ _ _ _ => by kernel_rfl
theorem r49_1 (x0 x1 : AV) : RR O49 49 13 1 false [(0, x0), (1, x1)] fun _ call md k h =>
 bnd (aBinC tab .geq 3 x1 (.int .i64 0) true) fun v1 =>
 gd true v1 h (fun k => k x1 h) fun v2 h3 =>
 gd true v1 h3 (fun k => k x0 h3) fun v4 h5 =>
 gd true v1 h5 (fun k => bnd2 (call md 46 [v4] h5) k) fun v6 h7 =>
 gd true v1 h7 (fun k => bnd (aBinC tab .lss 3 v2 v6 false) (k · h7)) fun v8 h9 =>
 bnd (aPick v1 v8 (.bool false)) fun v10 =>
 k .normal (st 13 [(4, v10)]) h9
 := fun _ _ _ _ _ _ => by kernel_rfl
def R49 := And.intro @r49_0 <| @r49_1
end Go.Ax

set_option linter.unusedVariables false
namespace Go.Ax
open Go Go.Proofs
noncomputable def O50 (i : Nat) : Array Oper := opsOf i (bodyOf Try.f50)
theorem s50 : bodyOf Try.f50 = (.seq (.region 0 (O50 0) false) (.seq (.seq (.region 1 (O50 1) false) (.cond (Go.Operand.tmp 7) (.region 2 (O50 2) false) .skip)) (.seq (.seq (.region 3 (O50 3) false) (.cond (Go.Operand.tmp 15) (.region 4 (O50 4) false) .skip)) (.seq (.region 5 (O50 5) false) .ret)))) := by kernel_rfl
theorem e50 : E0 50 = some ⟨28, [2], bodyOf Try.f50⟩ := by kernel_rfl
theorem r50_0 (x0 : AV) : RR O50 50 28 0 false [(0, x0)] fun _ call md k h =>
 k .normal (st 28 [(0, x0)]) h
 := fun _ _ _ _ _ _ => by kernel_rfl
theorem r50_1 (x0 : AV) : RR O50 50 28 1 false [(0, x0)] fun _ call md k h =>
 bnd (aNil x0) fun v1 =>
 bnd (aFieldAddr tab 84 v1 2) fun v2 =>
 bnd (aLoad tab 3 v2 h) fun v3 =>
 bnd (aBinC tab .eql 3 v3 (.int .i64 0) true) fun v4 =>
 k .normal (st 28 [(0, x0), (7, v4)]) h
 := fun _ _ _ _ _ _ => by kernel_rfl
theorem r50_2 (x0 x7 : AV) : RR O50 50 28 2 false [(0, x0), (7, x7)] fun _ call md k h =>
 bnd (aNil x0) fun v1 =>
 bnd (aFieldAddr tab 84 v1 3) fun v2 =>
 bnd (aStore tab 4 v2 (.bool true) h) fun h3 =>
 k .normal (st 28 [(0, x0)]) h3
 := fun _ _ _ _ _ _ => by kernel_rfl
theorem r50_3a (x0 x7 : AV) : RR O50 50 28 3 false [(0, x0), (7, x7)] fun _ call md k h =>
 bnd (aNil x0) fun v1 =>
 bnd (aFieldAddr tab 84 v1 2) fun v2 =>
 bnd (aLoad tab 3 v2 h) fun v3 =>
 bnd (aBinC tab .gtr 3 v3 (.int .i64 0) true) fun v4 =>
 k .normal (st 28 [(0, x0), (15, v4)]) h
 := fun _ _ _ _ _ _ => by kernel_rfl
theorem r50_3b (x0 : AV) : RR O50 50 28 3 false [(0, x0)] fun _ call md k h =>
 bnd (aNil x0) fun v1 =>
 bnd (aFieldAddr tab 84 v1 2) fun v2 =>
 bnd (aLoad tab 3 v2 h) fun v3 =>
 bnd (aBinC tab .gtr 3 v3 (.int .i64 0) true) fun v4 =>
 k .normal (st 28 [(0, x0), (15, v4)]) h
 := fun _ _ _ _ _ _ => by kernel_rfl
theorem r50_4 (x0 x15 : AV) : RR O50 50 28 4 false [(0, x0), (15, x15)] fun _ call md k h =>
 bnd (aNil x0) fun v1 =>
 bnd (aFieldAddr tab 84 v1 2) fun v2 =>
 bnd (aLoad tab 3 v2 h) fun v3 =>
 bnd (aBinC tab .sub 3 v3 (.int .i64 1) true) fun v4 =>
 bnd (aNil x0) fun v5 =>
 bnd (aFieldAddr tab 84 v5 2) fun v6 =>
 bnd (aStore tab 3 v6 v4 h) fun h7 =>
 k .normal (st 28 [(0, x0)]) h7
 := fun _ _ _ _ _ _ => by kernel_rfl
theorem r50_5a (x0 x15 : AV) : RR O50 50 28 5 false [(0, x0), (15, x15)] fun _ call md k h =>
 bnd (aNil x0) fun v1 =>
 bnd (aFieldAddr tab 84 v1 3) fun v2 =>
 bnd (aLoad tab 4 v2 h) fun v3 =>
 bnd (aUn .not v3) fun v4 =>
 k .normal (st 28 [(2, v4)]) h
 := fun _ _ _ _ _ _ => by kernel_rfl
theorem r50_5b (x0 : AV) : RR O50 50 28 5 false [(0, x0)] fun _ call md k h =>
 bnd (aNil x0) fun v1 =>
 bnd (aFieldAddr tab 84 v1 3) fun v2 =>
 bnd (aLoad tab 4 v2 h) fun v3 =>
 bnd (aUn .not v3) fun v4 =>
 k .normal (st 28 [(2, v4)]) h
 := fun _ _ _ _ _ _ => by kernel_rfl
def R50 := And.intro @r50_0 <| And.intro @r50_1 <| And.intro @r50_2 <| And.intro @r50_3a <| And.intro @r50_3b <| And.intro @r50_4 <| And.intro @r50_5a <| @r50_5b
end Go.Ax

namespace Go.Ax
open Go Go.Proofs
structure Dk where
  lasts : List (List UInt8)
  loose : List (Nat × List UInt8)
  fuse : Int
  down : Bool
def cellAV (b : List UInt8) : AV := .agg 88 (b.map U8)
def writeAV (w : Nat × List UInt8) : AV := .agg 90 [.int .i64 w.1, cellAV w.2]
def lastsAV (r n : Nat) : AV := if n = 0 then .vsl 88 [] .none else .msl r [] 88 0 n
def dv (r n : Nat) (x : AV) (f : Int) (w : Bool) : Obj := .var 84 (.agg 83 [lastsAV r n, x, .int .i64 f, .bool w])
structure Dsk (S : Obs) (h : Heap) (p r : Nat) (d : Dk) : Prop where
  hp : S p
  hr : d.lasts ≠ [] → S r
  var : ∃ x, h[p]? = some (dv r d.lasts.length x d.fuse d.down) ∧ Ap 90 S h x (d.loose.map writeAV)
  row : d.lasts ≠ [] → h[r]? = some (.row 88 (d.lasts.map cellAV))
  cells : ∀ b ∈ d.lasts, b.length = 64
  loose : ∀ w ∈ d.loose, w.1 < d.lasts.length ∧ w.2.length = 64
  few : d.lasts.length ≤ 1024
theorem Dsk.keep {S U : Obs} {h h' : Heap} {p r : Nat} {d : Dk} (D : Dsk S h p r d) (k : Keep U h h') (hd : ∀ i, i < h.length → S i → ¬ U i) : Dsk S h' p r d := by
  obtain ⟨x, hx, ha⟩ := D.var
  refine ⟨D.hp, D.hr, ⟨x, ?_, ha.keep k hd⟩, fun hne => ?_, D.cells, D.loose, D.few⟩
  · rw [k.2 p (hd p (List.getElem?_eq_some_iff.1 hx).1 D.hp)]; exact hx
  · have hr := D.row hne
    rw [k.2 r (hd r (List.getElem?_eq_some_iff.1 hr).1 (D.hr hne))]; exact hr
theorem Dsk.fresh {S : Obs} {h h' : Heap} {p r : Nat} {d : Dk} (D : Dsk S h p r d) (k : Keep (From h.length) h h') : Dsk S h' p r d := D.keep k fun _ hi _ hj => Nat.not_le.2 hi hj
theorem Dsk.mono {S U : Obs} {h : Heap} {p r : Nat} {d : Dk} (D : Dsk S h p r d) (hs : ∀ i, S i → U i) : Dsk U h p r d := by
  obtain ⟨x, hx, ha⟩ := D.var
  exact ⟨hs _ D.hp, fun e => hs _ (D.hr e), ⟨x, hx, ha.mono hs⟩, D.row, D.cells, D.loose, D.few⟩
theorem load_fld {h : Heap} {p t u i ty u' : Nat} {fs : List AV} {v : AV} (hp : h[p]? = some (.var t (.agg u fs))) (hv : fs[i]? = some v) (hu : u' = Tab.und tab ty) : aLoad tab ty (.ref p [i] u') h = some v := by
  simp [aLoad, hu, hp, objGet, getP, hv]
theorem store_fld {h : Heap} {p t u i ty u' : Nat} {fs : List AV} {v x : AV} (hp : h[p]? = some (.var t (.agg u fs))) (hv : fs[i]? = some v) (hu : u' = Tab.und tab ty) (hf : fits tab ty x = true) :
    aStore tab ty (.ref p [i] u') x h = some (h.set p (.var t (.agg u (fs.set i x)))) := by
  simp [aStore, hu, hf, hp, objSet, setP, hv]
theorem load_var {h : Heap} {p t ty u' : Nat} {v : AV} (hp : h[p]? = some (.var t v)) (hu : u' = Tab.und tab ty) : aLoad tab ty (.ref p [] u') h = some v := by
  simp [aLoad, hu, hp, objGet, getP]
theorem store_var {h : Heap} {p t ty u' : Nat} {v x : AV} (hp : h[p]? = some (.var t v)) (hu : u' = Tab.und tab ty) (hf : fits tab ty x = true) :
    aStore tab ty (.ref p [] u') x h = some (h.set p (.var t x)) := by
  simp [aStore, hu, hf, hp, objSet, setP]
theorem store_new {h : Heap} {t ty u' : Nat} {v x : AV} (hu : u' = Tab.und tab ty) (hf : fits tab ty x = true) :
    aStore tab ty (.ref h.length [] u') x (h ++ [.var t v]) = some (h ++ [.var t x]) := by
  rw [store_var (t := t) (v := v) (by simp) hu hf]
  simp
abbrev dp (p : Nat) : AV := .ref p [] 83
section fields
variable {h : Heap} {p r n : Nat} {x : AV} {f : Int} {w : Bool} (hp : h[p]? = some (dv r n x f w))
include hp
theorem dld0 : aLoad tab 81 (.ref p [0] 81) h = some (lastsAV r n) := load_fld (i := 0) hp rfl (by simp)
theorem dld1 : aLoad tab 82 (.ref p [1] 82) h = some x := load_fld (i := 1) hp rfl (by simp)
theorem dld2 : aLoad tab 3 (.ref p [2] 3) h = some (.int .i64 f) := load_fld (i := 2) hp rfl (by simp)
theorem dld3 : aLoad tab 4 (.ref p [3] 4) h = some (.bool w) := load_fld (i := 3) hp rfl (by simp)
theorem dst1 {y : AV} (hf : fits tab 82 y = true) : aStore tab 82 (.ref p [1] 82) y h = some (h.set p (dv r n y f w)) := store_fld (i := 1) hp rfl (by simp) hf
theorem dst2 (g : Int) : aStore tab 3 (.ref p [2] 3) (.int .i64 g) h = some (h.set p (dv r n x g w)) := store_fld (i := 2) hp rfl (by simp) rfl
theorem dst3 (g : Bool) : aStore tab 4 (.ref p [3] 4) (.bool g) h = some (h.set p (dv r n x f g)) := store_fld (i := 3) hp rfl (by simp) rfl
end fields
theorem dp_nil (p : Nat) : aBinC tab .eql 25 (dp p) .nilp true = some (.bool false) := by simp [aBinC, aBin, aEq]
theorem dp_neq (p : Nat) : aBinC tab .neq 25 (dp p) .nilp true = some (.bool true) := by simp [aBinC, aBin, aEq]
theorem dp_chk (p : Nat) : aNil (dp p) = some (dp p) := rfl
theorem dpf0 (p : Nat) : aFieldAddr tab 84 (dp p) 0 = some (.ref p [0] 81) := by simp [aFieldAddr]
theorem dpf1 (p : Nat) : aFieldAddr tab 84 (dp p) 1 = some (.ref p [1] 82) := by simp [aFieldAddr]
theorem dpf2 (p : Nat) : aFieldAddr tab 84 (dp p) 2 = some (.ref p [2] 3) := by simp [aFieldAddr]
theorem dpf3 (p : Nat) : aFieldAddr tab 84 (dp p) 3 = some (.ref p [3] 4) := by simp [aFieldAddr]
theorem len81 (r n : Nat) : aLen tab 81 (lastsAV r n) = some (.int .i64 n) := by
  unfold lastsAV
  split
  · rename_i h; subst h; simp [aLen]
  · simp [aLen]
theorem len_ok {S : Obs} {p r : Nat} {h : Heap} {d : Dk} (D : Dsk S h p r d) (md : Bool) (k : Nat) : exFn C0 E0 (k + 1) md 46 [dp p] h = some (.int .i64 d.lasts.length, h) := by
  obtain ⟨x, hx, -⟩ := D.var
  refine exFn_of e46 ?_
  rw [fnK, show ([dp p] ++ List.replicate (10 - [dp p].length) AV.undef) = st 10 [(0, dp p)] from rfl, s46]
  simp -implicitDefEqProofs only [↓RK, RK, ↓RB, RB, decide_true, decide_false, STs, Nat.reduceBEq, ↓reduceIte, Nat.reduceLT, ↓R46, R46, dp_nil, dp_chk, dpf0, dld0 hx, len81]
def Dk.has (d : Dk) (i : Int) : Prop := 0 ≤ i ∧ i < d.lasts.length
instance (d : Dk) (i : Int) : Decidable (d.has i) := by unfold Dk.has; infer_instance
theorem there_ok {S : Obs} {p r : Nat} {h : Heap} {d : Dk} (D : Dsk S h p r d) (i : Int) (md : Bool) (k : Nat) : exFn C0 E0 (k + 2) md 49 [dp p, .int .i64 i] h = some (.bool (decide (d.has i)), h) := by
  refine exFn_of e49 ?_
  rw [fnK, show ([dp p, .int .i64 i] ++ List.replicate (13 - [dp p, .int .i64 i].length) AV.undef) = st 13 [(0, dp p), (1, .int .i64 i)] from rfl, s49]
  by_cases h0 : 0 ≤ i
  · have e : decide (0 ≤ i) = true := by simpa using h0
    have e2 : decide (d.has i) = decide (i < d.lasts.length) := by simp [Dk.has, h0]
    simp -implicitDefEqProofs only [↓RK, RK, ↓RB, RB, decide_true, decide_false, STs, Nat.reduceBEq, ↓reduceIte, Nat.reduceLT, ↓R49, R49, bin_geq, e, len_ok D, bin_lss, e2]
  · have e : decide (0 ≤ i) = false := by simpa using h0
    have e2 : decide (d.has i) = false := by simp [Dk.has, h0]
    simp -implicitDefEqProofs only [↓RK, RK, ↓RB, RB, decide_true, decide_false, STs, Nat.reduceBEq, ↓reduceIte, Nat.reduceLT, ↓R49, R49, bin_geq, e, len_ok D, bin_lss, e2]
theorem Dsk.upd {S : Obs} {p r : Nat} {h : Heap} {d : Dk} (D : Dsk S h p r d) {x : AV} (hx : h[p]? = some (dv r d.lasts.length x d.fuse d.down)) (ha : Ap 90 S h x (d.loose.map writeAV)) (f : Int) (w : Bool) :
    Dsk S (h.set p (dv r d.lasts.length x f w)) p r { d with fuse := f, down := w } := by
  have hlt : p < h.length := (List.getElem?_eq_some_iff.1 hx).1
  refine ⟨D.hp, D.hr, ⟨x, by simp [hlt], ha.at hx (by simp [dv]) fun i _ hi => List.getElem?_set_ne (by omega)⟩, fun hne => ?_, D.cells, D.loose, D.few⟩
  have hr := D.row hne
  rw [List.getElem?_set_ne]
  · exact hr
  · intro e
    subst e
    rw [hx] at hr
    cases hr
def Dk.burn (d : Dk) : Dk := { d with fuse := if 0 < d.fuse then d.fuse - 1 else d.fuse, down := d.down || decide (d.fuse = 0) }
theorem burn_ok {S : Obs} {p r : Nat} {h : Heap} {d : Dk} (D : Dsk S h p r d) (hf : d.fuse < 2 ^ 63) (md : Bool) (k : Nat) :
    ∃ h', exFn C0 E0 (k + 1) md 50 [dp p] h = some (.bool (!d.burn.down), h') ∧ Dsk S h' p r d.burn ∧ Keep S h h' ∧ (∀ i, i ≠ p → h'[i]? = h[i]?) ∧ h'.length = h.length := by
  obtain ⟨x, hx, ha⟩ := D.var
  have hlt : p < h.length := (List.getElem?_eq_some_iff.1 hx).1
  have n0 : ([dp p] ++ List.replicate (28 - [dp p].length) AV.undef) = st 28 [(0, dp p)] := rfl
  rcases Int.lt_trichotomy d.fuse 0 with h0 | h0 | h0
  · refine ⟨h, exFn_of e50 ?_, ?_, Keep.refl _ _, fun _ _ => rfl, rfl⟩
    · have e1 : decide (d.fuse = 0) = false := by simp; omega
      have e2 : decide (0 < d.fuse) = false := by simp; omega
      have e3 : d.burn.down = d.down := by simp [Dk.burn, e1]
      rw [fnK, n0, s50, e3]
      simp -implicitDefEqProofs only [↓RK, RK, ↓RB, RB, decide_true, decide_false, STs, Nat.reduceBEq, ↓reduceIte, Nat.reduceLT, ↓R50, R50, dp_chk, dpf2, dpf3, dld2 hx, dld3 hx, bin_eql, e1, bin_gtr, e2, un_not]
    · have : d.burn = d := by
        have e1 : decide (d.fuse = 0) = false := by simp; omega
        have e2 : ¬ 0 < d.fuse := by omega
        unfold Dk.burn
        rw [e1, if_neg e2]
        simp
      rw [this]; exact D
  · have D1 := D.upd hx ha d.fuse true
    have hb : d.burn = { d with fuse := d.fuse, down := true } := by
      have e2 : ¬ 0 < d.fuse := by omega
      unfold Dk.burn
      simp [h0]
    refine ⟨_, exFn_of e50 ?_, hb ▸ D1, Keep.set h _ D.hp, fun i hi => List.getElem?_set_ne (by omega), by simp⟩
    have e1 : decide (d.fuse = 0) = true := by simp; omega
    have e2 : decide (0 < d.fuse) = false := by simp; omega
    have hx' : (h.set p (dv r d.lasts.length x d.fuse true))[p]? = some (dv r d.lasts.length x d.fuse true) := by simp [hlt]
    rw [fnK, n0, s50, hb]
    simp -implicitDefEqProofs only [↓RK, RK, ↓RB, RB, decide_true, decide_false, STs, Nat.reduceBEq, ↓reduceIte, Nat.reduceLT, ↓R50, R50, dp_chk, dpf2, dpf3, dld2 hx, dld3 hx, dld2 hx', dld3 hx', dst3 hx, bin_eql, e1, bin_gtr, e2, un_not]
  · have w : IntKind.i64.wrap (d.fuse - 1) = d.fuse - 1 := wrap_i64 (by omega) (by omega)
    have D1 := D.upd hx ha (d.fuse - 1) d.down
    have hb : d.burn = { d with fuse := d.fuse - 1, down := d.down } := by
      have e1 : decide (d.fuse = 0) = false := by simp; omega
      unfold Dk.burn
      rw [e1, if_pos h0]
      simp
    refine ⟨_, exFn_of e50 ?_, hb ▸ D1, Keep.set h _ D.hp, fun i hi => List.getElem?_set_ne (by omega), by simp⟩
    have e1 : decide (d.fuse = 0) = false := by simp; omega
    have e2 : decide (0 < d.fuse) = true := by simp; omega
    have hx' : (h.set p (dv r d.lasts.length x (d.fuse - 1) d.down))[p]? = some (dv r d.lasts.length x (d.fuse - 1) d.down) := by simp [hlt]
    rw [fnK, n0, s50, hb]
    simp -implicitDefEqProofs only [↓RK, RK, ↓RB, RB, decide_true, decide_false, STs, Nat.reduceBEq, ↓reduceIte, Nat.reduceLT, ↓R50, R50, dp_chk, dpf2, dpf3, dld2 hx, dld3 hx, dld3 hx', dst2 hx, bin_eql, e1, bin_gtr, e2, bin_sub, w, un_not]
def By (U : Obs) (h : Heap) (x : AV) (l : List UInt8) : Prop :=
  Bs x l ∨ ∃ r p off L, x = .msl r p 5 off l.length ∧ U r ∧ (h[r]?).bind (rowGet · p) = some L ∧ off + l.length ≤ L.length ∧ (L.drop off).take l.length = l.map U8
theorem By.len {U : Obs} {h : Heap} {x : AV} {l : List UInt8} (b : By U h x l) : aLen tab 22 x = some (.int .i64 l.length) := by
  rcases b with b | ⟨r, p, off, L, rfl, -⟩
  · exact b.len
  · simp [aLen]
theorem By.src {U : Obs} {h : Heap} {x : AV} {l : List UInt8} (b : By U h x l) : srcElems tab 5 h x = some (l.map U8) := by
  rcases b with (⟨rfl, rfl⟩ | ⟨k, rfl⟩) | ⟨r, p, off, L, rfl, -, hr, hle, hl⟩
  · simp [srcElems]
  · simp [srcElems]
  · simp [srcElems, slElems, hr, hle, hl]
theorem By.keep {U V : Obs} {h h' : Heap} {x : AV} {l : List UInt8} (b : By U h x l) (k : Keep V h h') (hd : ∀ i, i < h.length → U i → ¬ V i) : By U h' x l := by
  rcases b with b | ⟨r, p, off, L, hx, hu, hr, hl⟩
  · exact .inl b
  · have hlt : r < h.length := by
      rcases Nat.lt_or_ge r h.length with g | g
      · exact g
      · rw [List.getElem?_eq_none g] at hr; cases hr
    exact .inr ⟨r, p, off, L, hx, hu, by rw [k.2 r (hd r hlt hu)]; exact hr, hl⟩
theorem By.fits {U : Obs} {h : Heap} {x : AV} {l : List UInt8} (b : By U h x l) : fits tab 22 x = true := by
  rcases b with (⟨rfl, rfl⟩ | ⟨k, rfl⟩) | ⟨r, p, off, L, rfl, -⟩ <;> rfl
theorem Ap.fits82 {S : Obs} {h : Heap} {x : AV} {l : List AV} (a : Ap 90 S h x l) : fits tab 82 x = true := by
  rcases a with ⟨rfl, -⟩ | ⟨k, rfl, -⟩ <;> rfl
def pad (b : List UInt8) : List UInt8 := b ++ List.replicate (64 - b.length) 0
theorem bld91 (n : Int) : aBuild tab 91 [(0, .int .i64 n)] = some (.agg 90 [.int .i64 n, cellAV (List.replicate 64 0)]) := by kernel_rfl
theorem alloc91 (h : Heap) : aAlloc tab 91 h = some (.ref h.length [] 90, h ++ [.var 91 (.agg 90 [.int .i64 0, cellAV (List.replicate 64 0)])]) := by kernel_rfl
theorem fa91_0 (q : Nat) : aFieldAddr tab 91 (.ref q [] 90) 0 = some (.ref q [0] 3) := by simp [aFieldAddr]
theorem fa91_1 (q : Nat) : aFieldAddr tab 91 (.ref q [] 90) 1 = some (.ref q [1] 88) := by simp [aFieldAddr]
theorem sl89 (q i : Nat) : aSlice tab 89 (.ref q [i] 88) none none none = some (.msl q [i] 5 0 64) := by simp [aSlice, aBounds, aBound]
theorem sl89v (l : List AV) (hl : l.length = 64) : aSlice tab 89 (.vptr 88 (.agg 88 l)) none none none = some (.vsl 5 l .none) := by
  simp [aSlice, aBounds, aBound]; rw [← hl]; simp
theorem fits91 (w : Nat × List UInt8) : fits tab 91 (writeAV w) = true := by kernel_rfl
theorem lit82 (w : Nat × List UInt8) : aLit tab 82 1 [(0, writeAV w)] = some (.vsl 90 [writeAV w] .exact) := by kernel_rfl
theorem app82 (x : AV) (new : List AV) (k : Tok) (h : Heap) : aApp tab 82 82 false x (.vsl 90 new k) h = aAppend tab 91 false x new h := by kernel_rfl
theorem cpy_new {h : Heap} {x : AV} {l c : List UInt8} {a : AV} (hx : srcElems tab 5 (h ++ [.var 91 (.agg 90 [a, cellAV c])]) x = some (l.map U8)) (hc : c.length = 64) (hl : l.length ≤ 64) :
    aCpy tab 22 (.msl h.length [1] 5 0 64) x (h ++ [.var 91 (.agg 90 [a, cellAV c])]) = some (.int .i64 l.length, h ++ [.var 91 (.agg 90 [a, cellAV (l ++ c.drop l.length)])]) := by
  simp only [aCpy, td22, tu5, hx, aCopy]
  have e : (l.map U8).take l.length = l.map U8 := List.take_of_length_le (by simp)
  simp [rowGet, objGet, getP, cellAV, rowSet, objSet, setP, hc, Nat.min_eq_left hl, e]
theorem write90 (n : Nat) (l : List UInt8) : AV.agg 90 [.int .i64 n, cellAV l] = writeAV (n, l) := rfl
def Dk.add (d : Dk) (w : Nat × List UInt8) : Dk := ⟨d.lasts, d.loose ++ [w], d.fuse, d.down⟩
def Dk.write (d : Dk) (at' : Int) (b : List UInt8) : Int × Dk :=
  if ¬ d.has at' ∨ 64 < b.length then (1, d)
  else if d.burn.down then (4, d.burn)
  else (0, d.burn.add (at'.toNat, pad b))
section
variable {S U : Obs} {p r : Nat} {h : Heap} {d : Dk} (D : Dsk S h p r d) {at' : Int} {x : AV} {b : List UInt8} (k : Nat)
theorem wn0 (p : Nat) (at' : Int) (x : AV) : ([dp p, .int .i64 at', x] ++ List.replicate (36 - [dp p, .int .i64 at', x].length) AV.undef) = st 36 [(0, dp p), (1, .int .i64 at'), (2, x)] := rfl
include D in
theorem write_no (h1 : ¬ d.has at') : exFn C0 E0 (k + 3) false 17 [dp p, .int .i64 at', x] h = some (.int .i64 1, h) := by
  have e0 : decide (d.has at') = false := decide_eq_false h1
  refine exFn_of e17 ?_
  rw [fnK, wn0, s17]
  simp -implicitDefEqProofs only [↓RK, RK, ↓RB, RB, decide_true, decide_false, STs, Nat.reduceBEq, ↓reduceIte, Nat.reduceLT, ↓R17, R17, there_ok D, e0, un_not, Bool.not_false]
include D in
theorem write_long (h1 : d.has at') (hb : By U h x b) (h2 : 64 < b.length) : exFn C0 E0 (k + 3) false 17 [dp p, .int .i64 at', x] h = some (.int .i64 1, h) := by
  have e0 : decide (d.has at') = true := decide_eq_true h1
  have e2 : decide ((64 : Int) < (b.length : Nat)) = true := decide_eq_true (by omega)
  refine exFn_of e17 ?_
  rw [fnK, wn0, s17]
  simp -implicitDefEqProofs only [↓RK, RK, ↓RB, RB, decide_true, decide_false, STs, Nat.reduceBEq, ↓reduceIte, Nat.reduceLT, ↓R17, R17, there_ok D, e0, un_not, Bool.not_true, hb.len, bin_gtr, e2]
include D in
theorem write_down (h1 : d.has at') (hb : By U h x b) (h2 : ¬ 64 < b.length) {h' : Heap} (b1 : exFn C0 E0 (k + 2) false 50 [dp p] h = some (.bool false, h')) :
    exFn C0 E0 (k + 3) false 17 [dp p, .int .i64 at', x] h = some (.int .i64 4, h') := by
  have e0 : decide (d.has at') = true := decide_eq_true h1
  have e2 : decide ((64 : Int) < (b.length : Nat)) = false := decide_eq_false (by omega)
  refine exFn_of e17 ?_
  rw [fnK, wn0, s17]
  simp -implicitDefEqProofs only [↓RK, RK, ↓RB, RB, decide_true, decide_false, STs, Nat.reduceBEq, ↓reduceIte, Nat.reduceLT, ↓R17, R17, there_ok D, e0, un_not, Bool.not_true, hb.len, bin_gtr, e2, b1, Bool.not_false]
theorem drop_rep (n : Nat) : (List.replicate 64 (0 : UInt8)).drop n = List.replicate (64 - n) 0 := List.drop_replicate
theorem Dsk.add {S : Obs} {p r : Nat} {h h' : Heap} {d : Dk} (D : Dsk S h p r d) {w : Nat × List UInt8} {x : AV} (hw : w.1 < d.lasts.length ∧ w.2.length = 64)
    (ha : Ap 90 S h' x ((d.loose ++ [w]).map writeAV)) (hr : ∀ l, h[r]? = some (.row 88 l) → h'[r]? = some (.row 88 l)) {y : AV} (hp : h'[p]? = some (dv r d.lasts.length y d.fuse d.down)) :
    Dsk S (h'.set p (dv r d.lasts.length x d.fuse d.down)) p r (d.add w) := by
  have hlt : p < h'.length := (List.getElem?_eq_some_iff.1 hp).1
  refine ⟨D.hp, D.hr, ⟨x, by simp [hlt, Dk.add], ?_⟩, fun hne => ?_, D.cells, ?_, D.few⟩
  · exact ha.at hp (fun g e => by cases e) fun i _ hi => List.getElem?_set_ne (by omega)
  · have := hr _ (D.row hne)
    rw [List.getElem?_set_ne]
    · exact this
    · intro e
      subst e
      rw [hp] at this
      cases this
  · intro v hv
    rcases List.mem_append.1 hv with hv | hv
    · exact D.loose v hv
    · simp only [List.mem_singleton] at hv; subst hv; exact hw
end
theorem write_go {S U : Obs} {p r : Nat} {h : Heap} {d : Dk} {at' : Int} {x : AV} {b : List UInt8} (k : Nat) (D : Dsk S h p r d) (up : Up S h) (hb : By U h x b) (hU : ∀ i, i < h.length → U i → ¬ S i)
    (hl : d.loose.length < 2 ^ 30) (h1 : d.has at') (h2 : ¬ 64 < b.length) {h' : Heap} (b1 : exFn C0 E0 (k + 2) false 50 [dp p] h = some (.bool true, h')) (D1 : Dsk S h' p r d.burn) (k1 : Keep S h h') :
    ∃ h'', exFn C0 E0 (k + 3) false 17 [dp p, .int .i64 at', x] h = some (.int .i64 0, h'') ∧ Dsk S h'' p r (d.burn.add (at'.toNat, pad b)) ∧ Keep S h h'' := by
  have e0 : decide (d.has at') = true := decide_eq_true h1
  have e2 : decide ((64 : Int) < (b.length : Nat)) = false := decide_eq_false (by omega)
  have hbl : d.burn.loose.length = d.loose.length := rfl
  obtain ⟨n, rfl⟩ : ∃ n : Nat, at' = n := ⟨at'.toNat, by have := h1.1; omega⟩
  rw [Int.toNat_natCast]
  have up1 := up.keep k1
  have k0 : Keep (From h'.length) h' (h' ++ [.var 91 (writeAV (n, List.replicate 64 0))]) := Keep.app h' _ (Up.fresh h')
  have hb1 := (hb.keep k1 hU).keep k0 fun i hi _ hj => Nat.not_le.2 hi hj
  have cp : aCpy tab 22 (.msl h'.length [1] 5 0 64) x (h' ++ [.var 91 (writeAV (n, List.replicate 64 0))]) = some (.int .i64 b.length, h' ++ [.var 91 (writeAV (n, pad b))]) := by
    have := cpy_new hb1.src List.length_replicate (by omega : b.length ≤ 64)
    rw [drop_rep] at this
    exact this
  have kH : Keep (From h'.length) h' (h' ++ [.var 91 (writeAV (n, pad b))]) := Keep.app h' _ (Up.fresh h')
  have D2 := D1.fresh kH
  have upH := up1.keep kH
  obtain ⟨y, hy, ha⟩ := D2.var
  have hq : (h' ++ [.var 91 (writeAV (n, pad b))])[h'.length]? = some (.var 91 (writeAV (n, pad b))) := by simp
  generalize hH : h' ++ [Obj.var 91 (writeAV (n, pad b))] = H at *
  obtain ⟨y', h3, kk, ap, hyk, ha3, k3, nt⟩ := Ap.append (T := tab) (e := 91) (S := S) (h := H) (x := y) (l := d.burn.loose.map writeAV) (new := [writeAV (n, pad b)]) (by rw [tu91]; exact ha) upH (by simp) (by simp)
    (by simp only [tb91, List.length_map, List.length_singleton, hbl]; omega) (by simp only [List.length_map, List.length_singleton, hbl]; omega) (by simp)
  rw [tu91] at ha3
  have hy3 := nt p _ hy (fun g e => by cases e)
  have hr3 : ∀ l, H[r]? = some (.row 88 l) → h3[r]? = some (.row 88 l) := fun l hl => nt r _ hl (fun g e => by cases e)
  have D3 := D2.add (w := (n, pad b)) ⟨by have := h1.2; simp only [Dk.burn]; omega, by simp [pad]; omega⟩ (by rw [List.map_append]; exact ha3) hr3 hy3
  refine ⟨_, exFn_of e17 ?_, D3, (k1.fresh kH up).trans (k3.trans (Keep.set h3 _ D.hp))⟩
  have sn := store_new (h := h') (t := 91) (ty := 91) (u' := 90) (v := .agg 90 [.int .i64 0, cellAV (List.replicate 64 0)]) (x := writeAV (n, List.replicate 64 0)) (by simp) (fits91 _)
  rw [fnK, wn0, s17]
  simp -implicitDefEqProofs only [↓RK, RK, ↓RB, RB, decide_true, decide_false, STs, Nat.reduceBEq, ↓reduceIte, Nat.reduceLT, ↓R17, R17, there_ok D, e0, un_not, Bool.not_true, hb.len, bin_gtr, e2, b1, bld91, alloc91, write90, sn, fa91_1, sl89, cp, hH, dp_chk, dpf1, dld1 hy,
    load_var hq (show (90 : Nat) = Tab.und tab 91 by simp), lit82, app82, ap, dst1 hy3 ha3.fits82]
theorem write_ok {S U : Obs} {p r : Nat} {h : Heap} {d : Dk} (D : Dsk S h p r d) (up : Up S h) (at' : Int) {x : AV} {b : List UInt8} (hb : By U h x b) (hU : ∀ i, i < h.length → U i → ¬ S i)
    (hl : d.loose.length < 2 ^ 30) (hf : d.fuse < 2 ^ 63) (k : Nat) :
    ∃ h', exFn C0 E0 (k + 3) false 17 [dp p, .int .i64 at', x] h = some (.int .i64 (d.write at' b).1, h') ∧ Dsk S h' p r (d.write at' b).2 ∧ Keep S h h' := by
  unfold Dk.write
  by_cases h1 : d.has at'
  · by_cases h2 : 64 < b.length
    · rw [if_pos (.inr h2)]
      exact ⟨h, write_long D k h1 hb h2, D, Keep.refl _ _⟩
    · rw [if_neg (fun h => h.elim (fun h => h h1) h2)]
      obtain ⟨h', b1, D1, k1, -, -⟩ := burn_ok D hf false (k + 1)
      cases hdn : d.burn.down
      · rw [hdn] at b1
        exact write_go k D up hb hU hl h1 h2 b1 D1 k1
      · rw [hdn] at b1
        exact ⟨h', write_down D k h1 hb h2 b1, D1, k1⟩
  · rw [if_pos (.inl h1)]
    exact ⟨h, write_no D k h1, D, Keep.refl _ _⟩
end Go.Ax

set_option linter.unusedVariables false
namespace Go.Ax
open Go Go.Proofs
noncomputable def O20 (i : Nat) : Array Oper := opsOf i (bodyOf Try.f20)
theorem s20 : bodyOf Try.f20 = (.seq (.region 0 (O20 0) false) (.seq (.seq (.region 1 (O20 1) false) (.cond (Go.Operand.tmp 9) (.seq (.region 2 (O20 2) false) .ret) .skip)) (.seq (.region 3 (O20 3) false) .ret))) := by kernel_rfl
theorem e20 : E0 20 = some ⟨18, [4, 5], bodyOf Try.f20⟩ := by kernel_rfl
theorem r20_0 (x0 x1 : AV) : RR O20 20 18 0 false [(0, x0), (1, x1)] fun _ call md k h =>
 k .normal (st 18 [(0, x0), (1, x1)]) h
 := fun _ _ _ _ _ _ => by kernel_rfl
theorem r20_1 (x0 x1 : AV) : RR O20 20 18 1 false [(0, x0), (1, x1)] fun _ call md k h =>
 bnd2 (call md 49 [x0, x1] h) fun v1 h2 =>
 bnd (aUn .not v1) fun v3 =>
 k .normal (st 18 [(0, x0), (1, x1), (9, v3)]) h2
 := fun _ _ _ _ _ _ => by kernel_rfl
theorem r20_2 (x0 x1 x9 : AV) : RR O20 20 18 2 false [(0, x0), (1, x1), (9, x9)] fun _ call md k h =>
 k .normal (st 18 [(4, .nils), (5, (.int .i64 1))]) h
 := fun _ _ _ _ _ _ => by kernel_rfl
theorem r20_3 (x0 x1 x9 : AV) : RR O20 20 18 3 false [(0, x0), (1, x1), (9, x9)] fun _ call md k h =>
 bnd (aNil x0) fun v1 =>
 bnd (aFieldAddr tab 84 v1 0) fun v2 =>
 bnd (aLoad tab 81 v2 h) fun v3 =>
 bnd (aIndexAddr tab 81 v3 x1) fun v4 =>
 bnd (aSlice tab 89 v4 none none none) fun v5 =>
 bnd2 (call md 52 [v5] h) fun v6 h7 =>
 k .normal (st 18 [(4, v6), (5, (.int .i64 0))]) h7
 := fun _ _ _ _ _ _ => by kernel_rfl
def R20 := And.intro @r20_0 <| And.intro @r20_1 <| And.intro @r20_2 <| @r20_3
end Go.Ax

set_option linter.unusedVariables false
namespace Go.Ax
open Go Go.Proofs
noncomputable def O53 (i : Nat) : Array Oper := opsOf i (bodyOf Try.f53)
noncomputable def B53_1 : Code := (.seq (.region 5 (O53 5) false) (.seq (.cond (Go.Operand.tmp 14) .skip (.exit 0)) (.seq (.block 1 (.seq (.region 6 (O53 6) false) (.region 7 (O53 7) false))) (.region 8 (O53 8) false))))
theorem s53 : bodyOf Try.f53 = (.seq (.region 0 (O53 0) false) (.seq (.seq (.region 1 (O53 1) false) (.cond (Go.Operand.tmp 7) (.seq (.region 2 (O53 2) false) .ret) .skip)) (.seq (.region 3 (O53 3) false) (.seq (.seq (.region 4 (O53 4) false) (.block 0 (.loop B53_1))) (.seq (.region 9 (O53 9) false) .ret))))) := by kernel_rfl
theorem e53 : E0 53 = some ⟨24, [2], bodyOf Try.f53⟩ := by kernel_rfl
theorem r53_0 (x0 : AV) : RR O53 53 24 0 false [(0, x0)] fun _ call md k h =>
 k .normal (st 24 [(0, x0)]) h
 := fun _ _ _ _ _ _ => by kernel_rfl
theorem r53_1 (x0 : AV) : RR O53 53 24 1 false [(0, x0)] fun _ call md k h =>
 bnd (aBinC tab .eql 25 x0 .nilp true) fun v1 =>
 k .normal (st 24 [(0, x0), (7, v1)]) h
 := fun _ _ _ _ _ _ => by kernel_rfl
theorem r53_2 (x0 x7 : AV) : RR O53 53 24 2 false [(0, x0), (7, x7)] fun _ call md k h =>
 k .normal (st 24 [(2, .nils)]) h
 := fun _ _ _ _ _ _ => by kernel_rfl
theorem r53_3 (x0 x7 : AV) : RR O53 53 24 3 false [(0, x0), (7, x7)] fun _ call md k h =>
 k .normal (st 24 [(0, x0), (3, .nils)]) h
 := fun _ _ _ _ _ _ => by kernel_rfl
theorem r53_4 (x0 x3 : AV) : RR O53 53 24 4 false [(0, x0), (3, x3)] fun _ call md k h =>
 bnd (aNil x0) fun v1 =>
 bnd (aFieldAddr tab 84 v1 1) fun v2 =>
 bnd (aLoad tab 82 v2 h) fun v3 =>
 bnd (aLen tab 82 v3) fun v4 =>
 k .normal (st 24 [(3, x3), (11, v3), (12, v4), (13, (.int .i64 0))]) h
 := fun _ _ _ _ _ _ => by kernel_rfl
theorem r53_5 (x3 x11 x12 x13 : AV) : RR O53 53 24 5 false [(3, x3), (11, x11), (12, x12), (13, x13)] fun _ call md k h =>
 bnd (aBinC tab .lss 3 x13 x12 false) fun v1 =>
 k .normal (st 24 [(3, x3), (11, x11), (12, x12), (13, x13), (14, v1)]) h
 := fun _ _ _ _ _ _ => by kernel_rfl
theorem r53_6 (x3 x11 x12 x13 x14 : AV) : RR O53 53 24 6 false [(3, x3), (11, x11), (12, x12), (13, x13), (14, x14)] fun _ call md k h =>
 bnd (aIndexAddr tab 82 x11 x13) fun v1 =>
 bnd (aLoad tab 91 v1 h) fun v2 =>
 bnd2 (aAlloc tab 91 h) fun v3 h4 =>
 bnd (aStore tab 91 v3 v2 h4) fun h5 =>
 k .normal (st 24 [(3, x3), (5, v3), (11, x11), (12, x12), (13, x13)]) h5
 := fun _ _ _ _ _ _ => by kernel_rfl
theorem r53_7 (x3 x5 x11 x12 x13 : AV) : RR O53 53 24 7 false [(3, x3), (5, x5), (11, x11), (12, x12), (13, x13)] fun _ call md k h =>
 bnd (aFieldAddr tab 91 x5 0) fun v1 =>
 bnd (aLoad tab 3 v1 h) fun v2 =>
 bnd (aLit tab 93 1 [(0, v2)]) fun v3 =>
 bnd2 (aApp tab 93 93 md x3 v3 h) fun v4 h5 =>
 k .normal (st 24 [(3, v4), (11, x11), (12, x12), (13, x13)]) h5
 := fun _ _ _ _ _ _ => by kernel_rfl
theorem r53_8 (x3 x11 x12 x13 : AV) : RR O53 53 24 8 false [(3, x3), (11, x11), (12, x12), (13, x13)] fun _ call md k h =>
 bnd (aBinC tab .add 3 x13 (.int .i64 1) true) fun v1 =>
 k .normal (st 24 [(3, x3), (11, x11), (12, x12), (13, v1)]) h
 := fun _ _ _ _ _ _ => by kernel_rfl
theorem r53_9 (x3 x11 x12 x13 x14 : AV) : RR O53 53 24 9 false [(3, x3), (11, x11), (12, x12), (13, x13), (14, x14)] fun _ call md k h =>
 k .normal (st 24 [(2, x3)]) h
 := fun _ _ _ _ _ _ => by kernel_rfl
def R53 := And.intro @r53_0 <| And.intro @r53_1 <| And.intro @r53_2 <| And.intro @r53_3 <| And.intro @r53_4 <| And.intro @r53_5 <| And.intro @r53_6 <| And.intro @r53_7 <| And.intro @r53_8 <| @r53_9
end Go.Ax

set_option linter.unusedVariables false
namespace Go.Ax
open Go Go.Proofs
noncomputable def O38 (i : Nat) : Array Oper := opsOf i (bodyOf Try.f38)
noncomputable def B38_1 : Code := (.seq (.seq (.region 3 (O38 3) false) (.cond (Go.Operand.tmp 24) .skip (.exit 0))) (.seq (.block 1 (.seq (.region 5 (O38 5) false) (.cond (Go.Operand.tmp 36) (.seq (.region 6 (O38 6) false) .ret) .skip))) (.region 4 (O38 4) false)))
theorem s38 : bodyOf Try.f38 = (.seq (.region 0 (O38 0) false) (.seq (.region 1 (O38 1) false) (.seq (.seq (.region 2 (O38 2) false) (.block 0 (.loop B38_1))) (.seq (.region 7 (O38 7) false) .ret)))) := by kernel_rfl
theorem e38 : E0 38 = some ⟨48, [4, 5], bodyOf Try.f38⟩ := by kernel_rfl
theorem r38_0 (x0 x1 : AV) : RR O38 38 48 0 false [(0, x0), (1, x1)] fun _ call md k h =>
 k .normal (st 48 [(0, x0), (1, x1)]) h
 := fun _ _ _ _ _ _ => by kernel_rfl
theorem r38_1 (x0 x1 : AV) : RR O38 38 48 1 false [(0, x0), (1, x1)] fun _ call md k h =>
 bnd2 (call md 20 [x0, x1] h) fun v1 h2 =>
 bnd (aExtract v1 0) fun v3 =>
 bnd (aExtract v1 1) fun v4 =>
 k .normal (st 48 [(0, x0), (1, x1), (6, v3), (7, v4)]) h2
 := fun _ _ _ _ _ _ => by kernel_rfl
theorem r38_2 (x0 x1 x6 x7 : AV) : RR O38 38 48 2 false [(0, x0), (1, x1), (6, x6), (7, x7)] fun _ call md k h =>
 bnd2 (call md 53 [x0] h) fun v1 h2 =>
 bnd (aLen tab 93 v1) fun v3 =>
 bnd (aBinC tab .sub 3 v3 (.int .i64 1) true) fun v4 =>
 k .normal (st 48 [(0, x0), (1, x1), (6, x6), (7, x7), (8, v4)]) h2
 := fun _ _ _ _ _ _ => by kernel_rfl
theorem r38_3 (x0 x1 x6 x7 x8 : AV) : RR O38 38 48 3 false [(0, x0), (1, x1), (6, x6), (7, x7), (8, x8)] fun _ call md k h =>
 bnd (aBinC tab .geq 3 x8 (.int .i64 0) true) fun v1 =>
 gd true v1 h (fun k => k x7 h) fun v2 h3 =>
 gd true v1 h3 (fun k => bnd (aBinC tab .eql 27 v2 (.int .i64 0) true) (k · h3)) fun v4 h5 =>
 bnd (aPick v1 v4 (.bool false)) fun v6 =>
 k .normal (st 48 [(0, x0), (1, x1), (6, x6), (7, x7), (8, x8), (24, v6)]) h5
 := fun _ _ _ _ _ _ => by kernel_rfl
theorem r38_4 (x0 x1 x6 x7 x8 x36 : AV) : RR O38 38 48 4 false [(0, x0), (1, x1), (6, x6), (7, x7), (8, x8), (36, x36)] fun _ call md k h =>
 bnd (aBinC tab .sub 3 x8 (.int .i64 1) true) fun v1 =>
 k .normal (st 48 [(0, x0), (1, x1), (6, x6), (7, x7), (8, v1)]) h
 := fun _ _ _ _ _ _ => by kernel_rfl
theorem r38_5 (x0 x1 x6 x7 x8 x24 : AV) : RR O38 38 48 5 false [(0, x0), (1, x1), (6, x6), (7, x7), (8, x8), (24, x24)] fun _ call md k h =>
 bnd (aNil x0) fun v1 =>
 bnd (aFieldAddr tab 84 v1 1) fun v2 =>
 bnd (aLoad tab 82 v2 h) fun v3 =>
 bnd (aIndexAddr tab 82 v3 x8) fun v4 =>
 bnd (aFieldAddr tab 91 v4 0) fun v5 =>
 bnd (aLoad tab 3 v5 h) fun v6 =>
 bnd (aBinC tab .eql 3 v6 x1 false) fun v7 =>
 k .normal (st 48 [(0, x0), (1, x1), (6, x6), (7, x7), (8, x8), (36, v7)]) h
 := fun _ _ _ _ _ _ => by kernel_rfl
theorem r38_6 (x0 x1 x6 x7 x8 x36 : AV) : RR O38 38 48 6 false [(0, x0), (1, x1), (6, x6), (7, x7), (8, x8), (36, x36)] fun _ call md k h =>
 bnd (aNil x0) fun v1 =>
 bnd (aFieldAddr tab 84 v1 1) fun v2 =>
 bnd (aLoad tab 82 v2 h) fun v3 =>
 bnd (aIndexAddr tab 82 v3 x8) fun v4 =>
 bnd (aFieldAddr tab 91 v4 1) fun v5 =>
 bnd (aSlice tab 89 v5 none none none) fun v6 =>
 bnd2 (call md 52 [v6] h) fun v7 h8 =>
 k .normal (st 48 [(4, v7), (5, (.int .i64 0))]) h8
 := fun _ _ _ _ _ _ => by kernel_rfl
theorem r38_7 (x0 x1 x6 x7 x8 x24 : AV) : RR O38 38 48 7 false [(0, x0), (1, x1), (6, x6), (7, x7), (8, x8), (24, x24)] fun _ call md k h =>
 k .normal (st 48 [(4, x6), (5, x7)]) h
 := fun _ _ _ _ _ _ => by kernel_rfl
def R38 := And.intro @r38_0 <| And.intro @r38_1 <| And.intro @r38_2 <| And.intro @r38_3 <| And.intro @r38_4 <| And.intro @r38_5 <| And.intro @r38_6 <| @r38_7
end Go.Ax
