/- An interpreter of Go code over a small abstract heap, proved sound against the model, and what the functions that WalPlays reaches compute (part 1); each theorem for the inputs that it names. -/
import Derived.Orders
import Derived.Below
import Derived.Deep.MidRow
import Derived.Laws.NewBlocks
import Derived.Laws.IdiomStrings
import Derived.Deep.Draws
import Derived.Test.YtihjfpecjeplpaaProg
import Derived.KernelRfl
import Derived.Laws.Tables
import Derived.IntWalk
import Derived.Tactics
set_option linter.unusedSimpArgs false
set_option linter.unusedVariables false
set_option linter.defProp false

namespace Go.Ax
open Go Go.RowKit
abbrev Ty := Nat
inductive Tok where
  | none
  | exact
  | own (r g : Nat)
  deriving DecidableEq
inductive AV where
  | undef
  | skip
  | int (k : IntKind) (n : Int)
  | bool (b : Bool)
  | str (s : ByteArray)
  | nilp
  | ref (r : Nat) (p : List Nat) (t : Ty)
  | vptr (t : Ty) (v : AV)
  | nils
  | vsl (e : Ty) (l : List AV) (k : Tok)
  | msl (r : Nat) (p : List Nat) (e : Ty) (off len : Nat)
  | agg (t : Ty) (fs : List AV)
  | tuple (vs : List AV)
  | fn (f : Fn) (cs : List AV)
  | nilf
  | nilm
  | mapr (r : Nat)
  | nili
  | iface (t : Ty) (v : AV)
  deriving Inhabited
inductive D where
  | int (k : IntKind)
  | bool
  | str
  | ptr (e : Ty)
  | slice (e : Ty)
  | map (k v : Ty)
  | struct (fs : List Ty)
  | arr (n : Nat) (e : Ty)
  | func
  | iface
  | tuple
  | other
  deriving DecidableEq
structure TI where
  und : Ty
  d : D
  size : Nat
  bytes : Nat
  deriving DecidableEq
abbrev Tab := List TI
def Tab.d (T : Tab) (t : Ty) : D := match T[t]? with | some i => i.d | none => .other
def Tab.und (T : Tab) (t : Ty) : Ty := match T[t]? with | some i => i.und | none => t
def Tab.size (T : Tab) (t : Ty) : Nat := match T[t]? with | some i => i.size | none => 0
def Tab.bytes (T : Tab) (t : Ty) : Nat := match T[t]? with | some i => i.bytes | none => 0
def D.cell : D → Bool
  | .struct _ | .arr _ _ | .tuple | .other => false
  | _ => true
def Tab.cell (T : Tab) (t : Ty) : Bool := (T.d t).cell
def Tab.sizes (T : Tab) (ts : List Ty) : Nat := (ts.map T.size).sum
structure Tab.Ok (T : Tab) : Prop where
  cell : ∀ t, T.cell t = true → T.size t = 1
  struct : ∀ t ts, T.d t = .struct ts → T.size t = T.sizes ts
  arr : ∀ t n e, T.d t = .arr n e → T.size t = n * T.size e
  und : ∀ t, T.d (T.und t) = T.d t
  undSize : ∀ t, T.size (T.und t) = T.size t
  undBytes : ∀ t, T.bytes (T.und t) = T.bytes t
  undUnd : ∀ t, T.und (T.und t) = T.und t
  sliceE : ∀ t e, T.d t = .slice e → T.d e ≠ .other
  arrE : ∀ t n e, T.d t = .arr n e → T.d e ≠ .other
  structE : ∀ t ts, T.d t = .struct ts → ∀ f ∈ ts, T.d f ≠ .other
inductive Shape where
  | var (t : Ty)
  | row (e : Ty) (total : Nat)
structure Inj where
  imm : Nat → Nat → Option Value
  loc : Nat → Option (Nat × Nat)
  shape : Nat → Shape
  tloc : Nat → Nat → Option (Nat × Nat × Nat)
  own : Nat → Nat → Nat
structure Inj.Le (J J' : Inj) : Prop where
  imm : ∀ b o v, J.imm b o = some v → J'.imm b o = some v
  loc : ∀ r x, J.loc r = some x → J'.loc r = some x ∧ J'.shape r = J.shape r
  tloc : ∀ r g x, J.tloc r g = some x → J'.tloc r g = some x
theorem Inj.Le.refl (J : Inj) : J.Le J := ⟨fun _ _ _ h => h, fun _ _ h => ⟨h, rfl⟩, fun _ _ _ h => h⟩
theorem Inj.Le.trans {a b c : Inj} (h : a.Le b) (k : b.Le c) : a.Le c :=
  ⟨fun _ _ _ x => k.imm _ _ _ (h.imm _ _ _ x), fun _ _ x => ⟨(k.loc _ _ (h.loc _ _ x).1).1, ((k.loc _ _ (h.loc _ _ x).1).2).trans (h.loc _ _ x).2⟩,
    fun _ _ _ x => k.tloc _ _ _ (h.tloc _ _ _ x)⟩
def Inj.imms (J : Inj) (b o : Nat) (cs : List Value) : Prop := ∀ i v, cs[i]? = some v → J.imm b (o + i) = some v
theorem Inj.imms_le {J J' : Inj} (h : J.Le J') {b o cs} (k : J.imms b o cs) : J'.imms b o cs := fun i v hv => h.imm _ _ _ (k i v hv)
def Tab.path (T : Tab) : Ty → List Nat → Option (Nat × Ty)
  | t, [] => some (0, T.und t)
  | t, i :: p =>
    match T.d t with
    | .struct ts => match ts[i]? with
      | some f => (T.path f p).map fun x => (T.sizes (ts.take i) + x.1, x.2)
      | none => none
    | .arr n e => if i < n then (T.path e p).map fun x => (i * T.size e + x.1, x.2) else none
    | _ => none
def Tab.pathS (T : Tab) : Shape → List Nat → Option (Nat × Ty)
  | .var t, p => T.path t p
  | .row _ _, [] => none
  | .row e total, i :: p => if i < total then (T.path e p).map fun x => (i * T.size e + x.1, x.2) else none
def Tab.rowAt (T : Tab) (s : Shape) (p : List Nat) (e : Ty) : Option (Nat × Nat) :=
  match s, p with
  | .row e' total, [] => if e' = e then some (0, total) else none
  | s, p => match T.pathS s p with
    | some (off, t) => match T.d t with
      | .arr n e' => if T.und e' = e then some (off, n) else none
      | _ => none
    | none => none
def TokR (J : Inj) (k : Tok) (b o n : Nat) : Prop :=
  match k with
  | .none => True
  | .exact => n = 0
  | .own r g => n = 0 ∨ J.tloc r g = some (b, o, n)
theorem TokR.le {J J' : Inj} (h : J.Le J') {k b o n} (x : TokR J k b o n) : TokR J' k b o n := by
  cases k <;> simp only [TokR] at *
  · exact x
  · exact x.imp id (h.tloc _ _ _)
mutual
/-- A value of one cell. -/
inductive Cell (T : Tab) (J : Inj) : AV → Value → Prop
  | undef {v} : v.oneCell' = true → Cell T J .undef v
  | int (k n) : Cell T J (.int k n) (.int k n)
  | bool (b) : Cell T J (.bool b) (.bool b)
  | str (s) : Cell T J (.str s) (.string s)
  | nilp : Cell T J .nilp (.pointer none)
  | ref {r p t b o off} : J.loc r = some (b, o) → T.pathS (J.shape r) p = some (off, t) → Cell T J (.ref r p t) (.pointer (some ⟨b, o + off, none⟩))
  | vptr {t x b o cs} : Fl T J t x cs → J.imms b o cs → Cell T J (.vptr t x) (.pointer (some ⟨b, o, none⟩))
  | nils : Cell T J .nils (.slice none 0 0)
  | vsl {e l k b o cs n} : FlE T J e l cs → J.imms b o cs → TokR J k b (o + cs.length) (n * T.size e) → Cell T J (.vsl e l k) (.slice (some ⟨b, o, none⟩) l.length (l.length + n))
  /-- no elements, no room: wherever it points -/
  | vsle {e k a} : Cell T J (.vsl e [] k) (.slice (some a) 0 0)
  | msl {r p e off len b o ro cap} : J.loc r = some (b, o) → T.rowAt (J.shape r) p e = some (ro, off + cap) → len ≤ cap → 0 < len →
      Cell T J (.msl r p e off len) (.slice (some ⟨b, o + ro + off * T.size e, none⟩) len cap)
  | fn {f cs vs} : VRL T J cs vs → Cell T J (.fn f cs) (.func f #[] vs.toArray)
  | nilf : Cell T J .nilf .nilFunc
  | nilm : Cell T J .nilm (.map none)
  | nili : Cell T J .nili .nilIface
  | iface {t x y} : VR T J x y → Cell T J (.iface t x) (.iface t y)
/-- The cells of a value of a type that lies in memory. -/
inductive Fl (T : Tab) (J : Inj) : Ty → AV → List Value → Prop
  | cell {t v c} : T.cell t = true → Cell T J v c → Fl T J t v [c]
  | struct {t u ts fs cs} : T.d t = .struct ts → u = T.und t → FlS T J ts fs cs → Fl T J t (.agg u fs) cs
  | arr {t u n e fs cs} : T.d t = .arr n e → u = T.und t → fs.length = n → FlE T J e fs cs → Fl T J t (.agg u fs) cs
inductive FlS (T : Tab) (J : Inj) : List Ty → List AV → List Value → Prop
  | nil : FlS T J [] [] []
  | cons {t f c ts fs cs} : Fl T J t f c → FlS T J ts fs cs → FlS T J (t :: ts) (f :: fs) (c ++ cs)
inductive FlE (T : Tab) (J : Inj) : Ty → List AV → List Value → Prop
  | nil {e} : FlE T J e [] []
  | cons {e f c fs cs} : Fl T J e f c → FlE T J e fs cs → FlE T J e (f :: fs) (c ++ cs)
/-- A value in a temporary. -/
inductive VR (T : Tab) (J : Inj) : AV → Value → Prop
  | undef {v} : VR T J .undef v
  | skip : VR T J .skip undef
  | cell {v c} : Cell T J v c → VR T J v c
  | agg {t fs cs} : Fl T J t (.agg t fs) cs → VR T J (.agg t fs) (.agg cs.toArray)
  | tuple {vs xs} : VRL T J vs xs → VR T J (.tuple vs) (.tuple xs.toArray)
inductive VRL (T : Tab) (J : Inj) : List AV → List Value → Prop
  | nil : VRL T J [] []
  | cons {v x vs xs} : VR T J v x → VRL T J vs xs → VRL T J (v :: vs) (x :: xs)
end
mutual
theorem Cell.le {T : Tab} {J J' : Inj} (h : J.Le J') : ∀ {v c}, Cell T J v c → Cell T J' v c
  | _, _, .undef x => .undef x
  | _, _, .int k n => .int k n
  | _, _, .bool b => .bool b
  | _, _, .str s => .str s
  | _, _, .nilp => .nilp
  | _, _, .ref a b => .ref (h.loc _ _ a).1 (by rw [(h.loc _ _ a).2]; exact b)
  | _, _, .vptr a b => .vptr (Fl.le h a) (Inj.imms_le h b)
  | _, _, .nils => .nils
  | _, _, .vsl a b c => .vsl (FlE.le h a) (Inj.imms_le h b) (TokR.le h c)
  | _, _, .vsle => .vsle
  | _, _, .msl a b c d => .msl (h.loc _ _ a).1 (by rw [(h.loc _ _ a).2]; exact b) c d
  | _, _, .fn a => .fn (VRL.le h a)
  | _, _, .nilf => .nilf
  | _, _, .nilm => .nilm
  | _, _, .nili => .nili
  | _, _, .iface a => .iface (VR.le h a)
theorem Fl.le {T : Tab} {J J' : Inj} (h : J.Le J') : ∀ {t v c}, Fl T J t v c → Fl T J' t v c
  | _, _, _, .cell a b => .cell a (Cell.le h b)
  | _, _, _, .struct a b c => .struct a b (FlS.le h c)
  | _, _, _, .arr a b c d => .arr a b c (FlE.le h d)
theorem FlS.le {T : Tab} {J J' : Inj} (h : J.Le J') : ∀ {t v c}, FlS T J t v c → FlS T J' t v c
  | _, _, _, .nil => .nil
  | _, _, _, .cons a b => .cons (Fl.le h a) (FlS.le h b)
theorem FlE.le {T : Tab} {J J' : Inj} (h : J.Le J') : ∀ {t v c}, FlE T J t v c → FlE T J' t v c
  | _, _, _, .nil => .nil
  | _, _, _, .cons a b => .cons (Fl.le h a) (FlE.le h b)
theorem VR.le {T : Tab} {J J' : Inj} (h : J.Le J') : ∀ {v c}, VR T J v c → VR T J' v c
  | _, _, .undef => .undef
  | _, _, .skip => .skip
  | _, _, .cell a => .cell (Cell.le h a)
  | _, _, .agg a => .agg (Fl.le h a)
  | _, _, .tuple a => .tuple (VRL.le h a)
theorem VRL.le {T : Tab} {J J' : Inj} (h : J.Le J') : ∀ {v c}, VRL T J v c → VRL T J' v c
  | _, _, .nil => .nil
  | _, _, .cons a b => .cons (VR.le h a) (VRL.le h b)
end
section
variable {T : Tab} {J : Inj}
theorem Cell.oneCell {v c} (h : Cell T J v c) : c.oneCell' = true := by
  cases h <;> first | assumption | rfl
mutual
theorem Fl.ones : ∀ {t v cs}, Fl T J t v cs → ∀ c ∈ cs, c.oneCell' = true
  | _, _, _, .cell _ b => fun c hc => by simp at hc; subst hc; exact b.oneCell
  | _, _, _, .struct _ _ c => FlS.ones c
  | _, _, _, .arr _ _ _ d => FlE.ones d
theorem FlS.ones : ∀ {t v cs}, FlS T J t v cs → ∀ c ∈ cs, c.oneCell' = true
  | _, _, _, .nil => fun _ h => by cases h
  | _, _, _, .cons a b => fun c hc => by
    rcases List.mem_append.1 hc with h | h
    · exact Fl.ones a c h
    · exact FlS.ones b c h
theorem FlE.ones : ∀ {t v cs}, FlE T J t v cs → ∀ c ∈ cs, c.oneCell' = true
  | _, _, _, .nil => fun _ h => by cases h
  | _, _, _, .cons a b => fun c hc => by
    rcases List.mem_append.1 hc with h | h
    · exact Fl.ones a c h
    · exact FlE.ones b c h
end
mutual
theorem Fl.length (hT : T.Ok) : ∀ {t v cs}, Fl T J t v cs → cs.length = T.size t
  | _, _, _, .cell a _ => by simp [hT.cell _ a]
  | _, _, _, .struct a _ c => by rw [hT.struct _ _ a]; exact FlS.length hT c
  | _, _, _, .arr a _ c d => by rw [hT.arr _ _ _ a, ← c]; exact FlE.length hT d
theorem FlS.length (hT : T.Ok) : ∀ {ts v cs}, FlS T J ts v cs → cs.length = T.sizes ts
  | _, _, _, .nil => rfl
  | _, _, _, .cons a b => by
    have h1 := Fl.length hT a
    have h2 := FlS.length hT b
    simp only [List.length_append, h1, h2, Tab.sizes, List.map_cons, List.sum_cons]
theorem FlE.length (hT : T.Ok) : ∀ {e l cs}, FlE T J e l cs → cs.length = l.length * T.size e
  | _, _, _, .nil => by simp
  | _, _, _, .cons a b => by
    have h1 := Fl.length hT a
    have h2 := FlE.length hT b
    simp only [List.length_append, h1, h2, List.length_cons, Nat.add_mul, Nat.one_mul]; omega
end
theorem Fl.und (hT : T.Ok) {t v cs} (h : Fl T J t v cs) : Fl T J (T.und t) v cs := by
  cases h with
  | cell a b => exact .cell (by simpa [Tab.cell, hT.und] using a) b
  | struct a b c => exact .struct (by rw [hT.und]; exact a) (by rw [hT.undUnd]; exact b) c
  | arr a b c d => exact .arr (by rw [hT.und]; exact a) (by rw [hT.undUnd]; exact b) c d
theorem Fl.ofUnd (hT : T.Ok) {t v cs} (h : Fl T J (T.und t) v cs) : Fl T J t v cs := by
  cases h with
  | cell a b => exact .cell (by simpa [Tab.cell, hT.und] using a) b
  | struct a b c => exact .struct (by rw [hT.und] at a; exact a) (by rw [hT.undUnd] at b; exact b) c
  | arr a b c d => exact .arr (by rw [hT.und] at a; exact a) (by rw [hT.undUnd] at b; exact b) c d
theorem Fl.conv (hT : T.Ok) {t u v cs} (hu : T.und t = T.und u) (h : Fl T J t v cs) : Fl T J u v cs := by
  have := Fl.und hT h
  rw [hu] at this
  exact Fl.ofUnd hT this
theorem FlE.conv (hT : T.Ok) {t u} (hu : T.und t = T.und u) : ∀ {l cs}, FlE T J t l cs → FlE T J u l cs
  | _, _, .nil => .nil
  | _, _, .cons a b => .cons (Fl.conv hT hu a) (FlE.conv hT hu b)
theorem FlE.append {e l1 l2 c1 c2} (h1 : FlE T J e l1 c1) (h2 : FlE T J e l2 c2) : FlE T J e (l1 ++ l2) (c1 ++ c2) := by
  induction l1 generalizing c1 with
  | nil => cases h1; simpa using h2
  | cons f fs ih =>
    cases h1 with
    | cons a b => rw [List.cons_append, List.append_assoc]; exact .cons a (ih b)
theorem FlE.split {e l1 l2 cs} (h : FlE T J e (l1 ++ l2) cs) : ∃ c1 c2, cs = c1 ++ c2 ∧ FlE T J e l1 c1 ∧ FlE T J e l2 c2 := by
  induction l1 generalizing cs with
  | nil => exact ⟨[], cs, rfl, .nil, h⟩
  | cons f fs ih =>
    cases h with
    | cons a b =>
      obtain ⟨c1, c2, rfl, h1, h2⟩ := ih b
      exact ⟨_, c2, (List.append_assoc _ _ _).symm, .cons a h1, h2⟩
theorem FlS.split {l1 l2 ts cs} (h : FlS T J ts (l1 ++ l2) cs) : ∃ t1 t2 c1 c2, ts = t1 ++ t2 ∧ t1.length = l1.length ∧ cs = c1 ++ c2 ∧ FlS T J t1 l1 c1 ∧ FlS T J t2 l2 c2 := by
  induction l1 generalizing cs ts with
  | nil => exact ⟨[], ts, [], cs, rfl, rfl, rfl, .nil, h⟩
  | cons f fs ih =>
    cases h with
    | cons a b =>
      obtain ⟨t1, t2, c1, c2, rfl, hl, rfl, h1, h2⟩ := ih b
      exact ⟨_ :: t1, t2, _, c2, rfl, by simp [hl], (List.append_assoc _ _ _).symm, .cons a h1, h2⟩
theorem FlS.append {t1 t2 l1 l2 c1 c2} (h1 : FlS T J t1 l1 c1) (h2 : FlS T J t2 l2 c2) : FlS T J (t1 ++ t2) (l1 ++ l2) (c1 ++ c2) := by
  induction l1 generalizing c1 t1 with
  | nil => cases h1; simpa using h2
  | cons f fs ih =>
    cases h1 with
    | cons a b => rw [List.cons_append, List.cons_append, List.append_assoc]; exact .cons a (ih b)
theorem FlS.lens {ts l cs} (h : FlS T J ts l cs) : ts.length = l.length := by
  induction l generalizing ts cs with
  | nil => cases h; rfl
  | cons f fs ih => cases h with | cons a b => simp [ih b]
theorem Inj.imms_append {b o c1 c2} : J.imms b o (c1 ++ c2) ↔ J.imms b o c1 ∧ J.imms b (o + c1.length) c2 := by
  constructor
  · intro h
    refine ⟨fun i v hv => h i v ?_, fun i v hv => ?_⟩
    · rw [List.getElem?_append_left (List.getElem?_eq_some_iff.1 hv).1]; exact hv
    · have := h (c1.length + i) v (by rw [List.getElem?_append_right (by omega)]; simpa using hv)
      rwa [← Nat.add_assoc] at this
  · rintro ⟨h1, h2⟩ i v hv
    by_cases hi : i < c1.length
    · rw [List.getElem?_append_left hi] at hv; exact h1 i v hv
    · rw [List.getElem?_append_right (by omega)] at hv
      have := h2 _ v hv
      rwa [Nat.add_assoc, Nat.add_sub_cancel' (by omega)] at this
theorem VRL.length {vs xs} (h : VRL T J vs xs) : vs.length = xs.length := by
  induction vs generalizing xs with
  | nil => cases h; rfl
  | cons v vs ih => cases h with | cons a b => simp [ih b]
theorem VRL.get {vs xs} (h : VRL T J vs xs) (i : Nat) : VR T J (vs.getD i .undef) (xs.getD i undef) := by
  induction vs generalizing xs i with
  | nil => cases h; exact .undef
  | cons v vs ih =>
    cases h with
    | cons a b =>
      cases i with
      | zero => simpa using a
      | succ i => simpa using ih b i
theorem VRL.get? {vs : List AV} {xs : List Value} (h : VRL T J vs xs) {i : Nat} {v : AV} (hv : vs[i]? = some v) : ∃ x, xs[i]? = some x ∧ VR T J v x := by
  induction vs generalizing xs i with
  | nil => simp at hv
  | cons w vs ih =>
    cases h with
    | cons a b =>
      cases i with
      | zero => simp at hv; subst hv; exact ⟨_, rfl, a⟩
      | succ i => simpa using ih b (by simpa using hv)
theorem VRL.set {vs xs v x} (h : VRL T J vs xs) (i : Nat) (hv : VR T J v x) : VRL T J (vs.set i v) (xs.set i x) := by
  induction vs generalizing xs i with
  | nil => cases h; exact .nil
  | cons w vs ih =>
    cases h with
    | cons a b =>
      cases i with
      | zero => exact .cons hv b
      | succ i => exact .cons a (ih b i)
theorem VRL.append {v1 v2 x1 x2} (h1 : VRL T J v1 x1) (h2 : VRL T J v2 x2) : VRL T J (v1 ++ v2) (x1 ++ x2) := by
  induction v1 generalizing x1 with
  | nil => cases h1; exact h2
  | cons v vs ih => cases h1 with | cons a b => exact .cons a (ih b)
end
end Go.Ax

namespace Go.Ax
open Go Go.RowKit
inductive Obj where
  | var (t : Ty) (v : AV)
  | row (e : Ty) (l : List AV)
  | tok (g : Nat)
  | dead
  deriving Inhabited
abbrev Heap := List Obj
def getP : AV → List Nat → Option AV
  | v, [] => some v
  | .agg _ fs, i :: p => match fs[i]? with
    | some f => getP f p
    | none => none
  | _, _ :: _ => none
def setP (x : AV) : AV → List Nat → Option AV
  | _, [] => some x
  | .agg t fs, i :: p => match fs[i]? with
    | some f => match setP x f p with
      | some f' => some (.agg t (fs.set i f'))
      | none => none
    | none => none
  | _, _ :: _ => none
section
variable {T : Tab} {J : Inj}
theorem FlE.at {e : Ty} {l : List AV} {cs : List Value} (hT : T.Ok) (h : FlE T J e l cs) {i : Nat} {f : AV} (hf : l[i]? = some f) :
    ∃ c1 c2 c3, cs = c1 ++ (c2 ++ c3) ∧ c1.length = i * T.size e ∧ Fl T J e f c2 ∧
      ∀ f' c2', Fl T J e f' c2' → FlE T J e (l.set i f') (c1 ++ (c2' ++ c3)) := by
  induction l generalizing i cs with
  | nil => simp at hf
  | cons g l ih =>
    cases h with
    | @cons _ _ c _ cs a b =>
      cases i with
      | zero =>
        simp at hf; subst hf
        exact ⟨[], c, cs, rfl, by simp, a, fun f' c2' h' => show FlE T J e (f' :: l) (c2' ++ cs) from .cons h' b⟩
      | succ i =>
        obtain ⟨c1, c2, c3, rfl, hl, h1, h2⟩ := ih b (by simpa using hf)
        refine ⟨c ++ c1, c2, c3, by simp, ?_, h1, fun f' c2' h' => ?_⟩
        · rw [List.length_append, a.length hT, hl, Nat.add_mul]; omega
        · rw [List.append_assoc]; exact .cons a (h2 f' c2' h')
theorem FlS.at {ts : List Ty} {l : List AV} {cs : List Value} (hT : T.Ok) (h : FlS T J ts l cs) {i : Nat} {t : Ty} (ht : ts[i]? = some t) :
    ∃ f c1 c2 c3, l[i]? = some f ∧ cs = c1 ++ (c2 ++ c3) ∧ c1.length = T.sizes (ts.take i) ∧ Fl T J t f c2 ∧
      ∀ f' c2', Fl T J t f' c2' → FlS T J ts (l.set i f') (c1 ++ (c2' ++ c3)) := by
  induction ts generalizing i cs l with
  | nil => simp at ht
  | cons g ts ih =>
    cases h with
    | @cons _ f c _ fs cs a b =>
      cases i with
      | zero =>
        simp at ht; subst ht
        exact ⟨f, [], c, cs, rfl, rfl, by simp [Tab.sizes], a, fun f' c2' h' => show FlS T J (g :: ts) (f' :: fs) (c2' ++ cs) from .cons h' b⟩
      | succ i =>
        obtain ⟨f0, c1, c2, c3, hf0, rfl, hl, h1, h2⟩ := ih b (by simpa using ht)
        refine ⟨f0, c ++ c1, c2, c3, by simpa using hf0, by simp, ?_, h1, fun f' c2' h' => ?_⟩
        · rw [List.length_append, a.length hT, hl]; simp [Tab.sizes]
        · rw [List.append_assoc]; exact .cons a (h2 f' c2' h')
theorem Fl.part (hT : T.Ok) {p : List Nat} : ∀ {t : Ty} {v : AV} {cs : List Value} {off : Nat} {u : Ty}, Fl T J t v cs → T.path t p = some (off, u) →
    ∃ x c1 c2 c3, getP v p = some x ∧ cs = c1 ++ (c2 ++ c3) ∧ c1.length = off ∧ Fl T J u x c2 ∧
      ∀ x' c2', Fl T J u x' c2' → ∃ v', setP x' v p = some v' ∧ Fl T J t v' (c1 ++ (c2' ++ c3)) := by
  induction p with
  | nil =>
    intro t v cs off u h hp
    simp only [Tab.path, Option.some.injEq, Prod.mk.injEq] at hp
    obtain ⟨rfl, rfl⟩ := hp
    exact ⟨v, [], cs, [], by simp [getP], by simp, rfl, h.und hT, fun x' c2' h' => ⟨x', by simp [setP], by simpa using h'.ofUnd hT⟩⟩
  | cons i p ih =>
    intro t v cs off u h hp
    cases h with
    | cell a b =>
      simp only [Tab.path] at hp
      simp only [Tab.cell] at a
      cases hd : T.d t <;> rw [hd] at a hp <;> simp_all [D.cell]
    | @struct _ u0 ts fs cs a b c =>
      simp only [Tab.path, a] at hp
      cases hts : ts[i]? with
      | none => simp [hts] at hp
      | some t' =>
        simp only [hts, Option.map_eq_some_iff, Prod.mk.injEq] at hp
        obtain ⟨⟨off', u'⟩, hp', rfl, rfl⟩ := hp
        obtain ⟨f, d1, d2, d3, hf, rfl, hl, h1, h2⟩ := c.at hT hts
        obtain ⟨x, c1, c2, c3, hx, rfl, hl', h3, h4⟩ := ih h1 hp'
        refine ⟨x, d1 ++ c1, c2, c3 ++ d3, by simp [getP, hf, hx], by simp, by simp [hl, hl'], h3, fun x' c2' h' => ?_⟩
        obtain ⟨v', hv', hv''⟩ := h4 x' c2' h'
        refine ⟨.agg u0 (fs.set i v'), by simp [setP, hf, hv'], ?_⟩
        have := h2 v' _ hv''
        simp only [List.append_assoc] at this ⊢
        exact .struct a b this
    | @arr _ u0 n e fs cs a b c d =>
      simp only [Tab.path, a] at hp
      by_cases hi : i < n
      · simp only [hi, if_true, Option.map_eq_some_iff, Prod.mk.injEq] at hp
        obtain ⟨⟨off', u'⟩, hp', rfl, rfl⟩ := hp
        have hf : fs[i]? = some fs[i] := List.getElem?_eq_getElem (by omega)
        obtain ⟨d1, d2, d3, rfl, hl, h1, h2⟩ := d.at hT hf
        obtain ⟨x, c1, c2, c3, hx, rfl, hl', h3, h4⟩ := ih h1 hp'
        refine ⟨x, d1 ++ c1, c2, c3 ++ d3, by simp [getP, hf, hx], by simp, by simp [hl, hl'], h3, fun x' c2' h' => ?_⟩
        obtain ⟨v', hv', hv''⟩ := h4 x' c2' h'
        refine ⟨.agg u0 (fs.set i v'), by simp [setP, hf, hv'], ?_⟩
        have := h2 v' _ hv''
        simp only [List.append_assoc] at this ⊢
        exact .arr a b (by simpa using c) this
      · simp [hi] at hp
theorem Tab.path_append (hT : T.Ok) {p q : List Nat} : ∀ {t : Ty} {off : Nat} {u : Ty}, T.path t p = some (off, u) →
    T.path t (p ++ q) = (T.path u q).map fun x => (off + x.1, x.2) := by
  induction p with
  | nil =>
    intro t off u h
    simp only [Tab.path, Option.some.injEq, Prod.mk.injEq] at h
    obtain ⟨rfl, rfl⟩ := h
    cases q with
    | nil => simp [Tab.path, hT.undUnd]
    | cons i q => simp [Tab.path, hT.und]
  | cons i p ih =>
    intro t off u h
    simp only [Tab.path, List.cons_append] at h ⊢
    cases hd : T.d t with
    | struct ts =>
      simp only [hd] at h ⊢
      cases hts : ts[i]? with
      | none => simp [hts] at h
      | some t' =>
        simp only [hts, Option.map_eq_some_iff, Prod.mk.injEq] at h ⊢
        obtain ⟨⟨off', u'⟩, hp', rfl, rfl⟩ := h
        rw [ih hp']
        cases T.path u' q <;> simp [Nat.add_assoc]
    | arr n e =>
      simp only [hd] at h ⊢
      by_cases hi : i < n
      · simp only [hi, if_true, Option.map_eq_some_iff, Prod.mk.injEq] at h ⊢
        obtain ⟨⟨off', u'⟩, hp', rfl, rfl⟩ := h
        rw [ih hp']
        cases T.path u' q <;> simp [Nat.add_assoc]
      · simp [hi] at h
    | _ => simp [hd] at h
theorem Tab.pathS_append (hT : T.Ok) {s : Shape} {p q : List Nat} {off : Nat} {u : Ty} (h : T.pathS s p = some (off, u)) :
    T.pathS s (p ++ q) = (T.path u q).map fun x => (off + x.1, x.2) := by
  cases s with
  | var t => exact Tab.path_append hT h
  | row e total =>
    cases p with
    | nil => simp [Tab.pathS] at h
    | cons i p =>
      simp only [Tab.pathS, List.cons_append] at h ⊢
      by_cases hi : i < total
      · simp only [hi, if_true, Option.map_eq_some_iff, Prod.mk.injEq] at h ⊢
        obtain ⟨⟨off', u'⟩, hp', rfl, rfl⟩ := h
        rw [Tab.path_append hT hp']
        cases T.path u' q <;> simp [Nat.add_assoc]
      · simp [hi] at h
def has (w : World) (J : Inj) (r b o : Nat) (cs : List Value) : Prop :=
  ∀ i c, cs[i]? = some c → w.cell? ⟨b, o + i, none⟩ = some c ∧ w.frozen? ⟨b, o + i, none⟩ = false ∧ J.own b (o + i) = r + 1
inductive ObjC (T : Tab) (J : Inj) : Obj → Shape → List Value → Prop
  | var {t v cs} : Fl T J t v cs → ObjC T J (.var t v) (.var t) cs
  | row {e l total cs ss} : FlE T J e l cs → l.length ≤ total → (cs ++ ss).length = total * T.size e → (∀ c ∈ ss, c.oneCell' = true) → ObjC T J (.row e l) (.row e total) (cs ++ ss)
inductive ObjR (T : Tab) (J : Inj) (w : World) (r : Nat) : Obj → Prop
  | obj {ob b o cs} : J.loc r = some (b, o) → ObjC T J ob (J.shape r) cs → has w J r b o cs → ObjR T J w r ob
  | tok {g b o ss} : J.tloc r g = some (b, o, ss.length) → (∀ g', g < g' → J.tloc r g' = none) → has w J r b o ss → ObjR T J w r (.tok g)
  | dead : ObjR T J w r .dead
theorem ObjC.le {J' : Inj} (h : J.Le J') {ob s cs} (c : ObjC T J ob s cs) : ObjC T J' ob s cs := by
  cases c with
  | var a => exact .var (a.le h)
  | row a b c d => exact .row (a.le h) b c d
def Mk : Go.Obj → Prop
  | .cells c _ f => f.1 = f.2 ∨ c.size ≤ f.1
  | _ => True
def Marks (B : Nat) (w : World) : Prop := ∀ b, B ≤ b → ∀ ob, w.heap[b]? = some ob → Mk ob
theorem Marks.alloc {B : Nat} {w : World} (m : Marks B w) {ob : Go.Obj} (h : Mk ob) : Marks B (w.alloc ob) := fun b hb o ho => by
  have e : (w.alloc ob).heap = w.heap.push ob := rfl
  rw [e, Array.getElem?_push] at ho
  split at ho
  · cases ho; exact h
  · exact m b hb o ho
theorem Marks.setCell {B : Nat} {w : World} (m : Marks B w) (a : Addr) (v : Value) : Marks B (w.setCell a v) := fun b hb o ho => by
  unfold World.setCell at ho
  simp only [Array.getElem?_modify] at ho
  split at ho
  · cases hw : w.heap[b]? with
    | none => rw [hw] at ho; cases ho
    | some ob =>
      rw [hw] at ho
      have := m b hb ob hw
      simp only [Option.map_some, Option.some.injEq] at ho
      subst ho
      cases ob with
      | cells c t f =>
        simp only [Mk] at this ⊢
        split
        · exact this
        · simpa using this
      | _ => exact this
  · exact m b hb o ho
theorem Marks.setCells {B : Nat} (b : Nat) : ∀ (cs : List Value) (o : Nat) {w : World}, Marks B w → Marks B (w.setCells b o cs)
  | [], _, _, m => m
  | v :: r, o, _, m => Marks.setCells b r (o + 1) (m.setCell ⟨b, o, none⟩ v)
structure Rel (T : Tab) (B : Nat) (w0 : World) (J : Inj) (h : Heap) (w : World) : Prop where
  below : Below B w0 w
  base : B ≤ w0.heap.size
  marks : Marks B w
  imm : ∀ b o v, J.imm b o = some v → w.cell? ⟨b, o, none⟩ = some v ∧ J.own b o = 0
  own : ∀ b o, J.own b o ≠ 0 → B ≤ b ∧ b < w.heap.size ∧ J.own b o ≤ h.length
  fresh : ∀ r, h.length ≤ r → J.loc r = none ∧ ∀ g, J.tloc r g = none
  objs : ∀ r ob, h[r]? = some ob → ObjR T J w r ob
theorem cell?_lt {w : World} {b o : Nat} {v : Value} (h : w.cell? ⟨b, o, none⟩ = some v) : b < w.heap.size := by
  rcases Nat.lt_or_ge b w.heap.size with hb | hb
  · exact hb
  · simp [World.cell?, Array.getElem?_eq_none hb] at h
theorem has.append {w : World} {r b o : Nat} {c1 c2 : List Value} : has w J r b o (c1 ++ c2) ↔ has w J r b o c1 ∧ has w J r b (o + c1.length) c2 := by
  constructor
  · intro h
    refine ⟨fun i v hv => h i v ?_, fun i v hv => ?_⟩
    · rw [List.getElem?_append_left (List.getElem?_eq_some_iff.1 hv).1]; exact hv
    · have := h (c1.length + i) v (by rw [List.getElem?_append_right (by omega)]; simpa using hv)
      rwa [← Nat.add_assoc] at this
  · rintro ⟨h1, h2⟩ i v hv
    by_cases hi : i < c1.length
    · rw [List.getElem?_append_left hi] at hv; exact h1 i v hv
    · rw [List.getElem?_append_right (by omega)] at hv
      have := h2 _ v hv
      rwa [Nat.add_assoc, Nat.add_sub_cancel' (by omega)] at this
theorem has.rangeAt {w : World} {r b o : Nat} {cs : List Value} (h : has w J r b o cs) : w.rangeAt b o cs := fun i c hc => (h i c hc).1
theorem has.there {w : World} {r b o : Nat} {cs : List Value} (h : has w J r b o cs) : w.there b o cs.length := fun i hi => by
  have := h i cs[i] (List.getElem?_eq_getElem hi)
  exact ⟨by rw [this.1]; rfl, this.2.1⟩
theorem Rel.step {B : Nat} {w0 w w' : World} {J' : Inj} {h h' : Heap} (r : Nat) (R : Rel T B w0 J h w) (hle : J.Le J') (hB : Below B w w') (hm : Marks B w → Marks B w')
    (hkeep : ∀ b o, b < w.heap.size → J.own b o ≠ r + 1 → w'.cell? ⟨b, o, none⟩ = w.cell? ⟨b, o, none⟩ ∧ w'.frozen? ⟨b, o, none⟩ = w.frozen? ⟨b, o, none⟩ ∧ J'.own b o = J.own b o)
    (hown : ∀ b o, J'.own b o ≠ 0 → B ≤ b ∧ b < w'.heap.size ∧ J'.own b o ≤ h'.length)
    (himm : ∀ b o v, J'.imm b o = some v → J.imm b o = some v ∨ (w'.cell? ⟨b, o, none⟩ = some v ∧ J'.own b o = 0))
    (hfresh : ∀ q, h'.length ≤ q → J'.loc q = none ∧ ∀ g, J'.tloc q g = none)
    (hobjs : ∀ q ob, h'[q]? = some ob → (q ≠ r ∧ h[q]? = some ob ∧ J'.tloc q = J.tloc q) ∨ ObjR T J' w' q ob) : Rel T B w0 J' h' w' where
  below := R.below.trans hB
  base := R.base
  marks := hm R.marks
  imm b o v hv := by
    rcases himm b o v hv with h1 | h1
    · have h2 := R.imm b o v h1
      have hb := cell?_lt h2.1
      have hk := hkeep b o hb (by rw [h2.2]; omega)
      exact ⟨by rw [hk.1]; exact h2.1, by rw [hk.2.2]; exact h2.2⟩
    · exact h1
  own := hown
  fresh := hfresh
  objs q ob hq := by
    rcases hobjs q ob hq with ⟨hne, h1, h2⟩ | h1
    · have hh : ∀ b o cs, has w J q b o cs → has w' J' q b o cs := fun b o cs hc i c hi => by
        have := hc i c hi
        have hk := hkeep b (o + i) (cell?_lt this.1) (by rw [this.2.2]; omega)
        exact ⟨by rw [hk.1]; exact this.1, by rw [hk.2.1]; exact this.2.1, by rw [hk.2.2]; exact this.2.2⟩
      cases R.objs q ob h1 with
      | obj a b c => exact .obj (hle.loc _ _ a).1 (by rw [(hle.loc _ _ a).2]; exact b.le hle) (hh _ _ _ c)
      | tok a b c => exact .tok (by rw [h2]; exact a) (fun g' hg => by rw [h2]; exact b g' hg) (hh _ _ _ c)
      | dead => exact .dead
    · exact h1
end
end Go.Ax

namespace Go.Ax
open Go Go.RowKit
def objGet : Obj → List Nat → Option AV
  | .var _ v, p => getP v p
  | .row _ l, i :: p => match l[i]? with
    | some f => getP f p
    | none => none
  | _, _ => none
def objSet (x : AV) : Obj → List Nat → Option Obj
  | .var t v, p => match setP x v p with
    | some v' => some (.var t v')
    | none => none
  | .row e l, i :: p => match l[i]? with
    | some f => match setP x f p with
      | some f' => some (.row e (l.set i f'))
      | none => none
    | none => none
  | _, _ => none
def rowGet : Obj → List Nat → Option (List AV)
  | .row _ l, [] => some l
  | ob, p => match objGet ob p with
    | some (.agg _ fs) => some fs
    | _ => none
def rowSet (l' : List AV) : Obj → List Nat → Option Obj
  | .row e _, [] => some (.row e l')
  | ob, p => match objGet ob p with
    | some (.agg u _) => objSet (.agg u l') ob p
    | _ => none
section
variable {T : Tab} {J : Inj}
theorem ObjC.part (hT : T.Ok) {ob : Obj} {s : Shape} {cs : List Value} {p : List Nat} {off : Nat} {u : Ty} {x : AV} (h : ObjC T J ob s cs) (hp : T.pathS s p = some (off, u)) (hx : objGet ob p = some x) :
    ∃ c1 c2 c3, cs = c1 ++ (c2 ++ c3) ∧ c1.length = off ∧ Fl T J u x c2 ∧
      ∀ x' c2', Fl T J u x' c2' → ∃ ob', objSet x' ob p = some ob' ∧ ObjC T J ob' s (c1 ++ (c2' ++ c3)) := by
  cases h with
  | var a =>
    obtain ⟨x0, c1, c2, c3, hx0, rfl, hl, h1, h2⟩ := a.part hT hp
    simp only [objGet, hx0, Option.some.injEq] at hx
    subst hx
    refine ⟨c1, c2, c3, rfl, hl, h1, fun x' c2' h' => ?_⟩
    obtain ⟨v', hv, hv'⟩ := h2 x' c2' h'
    exact ⟨_, by simp [objSet, hv], .var hv'⟩
  | @row e l total cs ss a b c d =>
    cases p with
    | nil => simp [objGet] at hx
    | cons i p =>
      simp only [objGet] at hx
      cases hf : l[i]? with
      | none => simp [hf] at hx
      | some f =>
        simp only [hf] at hx
        have hi : i < l.length := (List.getElem?_eq_some_iff.1 hf).1
        simp only [Tab.pathS, show i < total by omega, if_true, Option.map_eq_some_iff, Prod.mk.injEq] at hp
        obtain ⟨⟨off', u'⟩, hp', rfl, rfl⟩ := hp
        obtain ⟨d1, d2, d3, rfl, hl, h1, h2⟩ := a.at hT hf
        obtain ⟨x0, c1, c2, c3, hx0, rfl, hl', h3, h4⟩ := h1.part hT hp'
        simp only [hx0, Option.some.injEq] at hx
        subst hx
        refine ⟨d1 ++ c1, c2, c3 ++ (d3 ++ ss), by simp, by simp [hl, hl'], h3, fun x' c2' h' => ?_⟩
        obtain ⟨v', hv, hv'⟩ := h4 x' c2' h'
        refine ⟨.row e (l.set i v'), by simp [objSet, hf, hv], ?_⟩
        have h5 := h2 v' _ hv'
        have hlen : c2'.length = c2.length := by rw [h'.length hT, h3.length hT]
        have := ObjC.row (T := T) (J := J) (ss := ss) h5 (by simpa using b) (by simp only [List.length_append] at c ⊢; omega) d
        simpa using this
theorem ObjC.rowPart (hT : T.Ok) {ob : Obj} {s : Shape} {cs : List Value} {p : List Nat} {ro n : Nat} {e : Ty} {l : List AV} (h : ObjC T J ob s cs) (hp : T.rowAt s p e = some (ro, n)) (hx : rowGet ob p = some l) :
    ∃ c1 c2 c3, cs = c1 ++ (c2 ++ c3) ∧ c1.length = ro ∧ FlE T J e l c2 ∧ l.length ≤ n ∧
      ∀ l' c2', l'.length = l.length → FlE T J e l' c2' → ∃ ob', rowSet l' ob p = some ob' ∧ ObjC T J ob' s (c1 ++ (c2' ++ c3)) := by
  have key : ∀ {u off}, T.pathS s p = some (off, u) → ∀ {m e'}, T.d u = .arr m e' → T.und e' = e → (off, m) = (ro, n) → ∀ u' , objGet ob p = some (.agg u' l) →
      (∀ l', rowSet l' ob p = objSet (.agg u' l') ob p) → ∃ c1 c2 c3, cs = c1 ++ (c2 ++ c3) ∧ c1.length = ro ∧ FlE T J e l c2 ∧ l.length ≤ n ∧
      ∀ l' c2', l'.length = l.length → FlE T J e l' c2' → ∃ ob', rowSet l' ob p = some ob' ∧ ObjC T J ob' s (c1 ++ (c2' ++ c3)) := by
    intro u off hps m e' hd he hmn u' hg hset
    simp only [Prod.mk.injEq] at hmn
    obtain ⟨rfl, rfl⟩ := hmn
    obtain ⟨c1, c2, c3, rfl, hl, h1, h2⟩ := h.part hT hps hg
    cases h1 with
    | cell a b => cases b
    | struct a b c => rw [hd] at a; cases a
    | arr a b c d =>
      rw [hd] at a
      cases a
      refine ⟨c1, c2, c3, rfl, hl, FlE.conv hT (by rw [← he, hT.undUnd]) d, by omega, fun l' c2' hl' h' => ?_⟩
      rw [hset]
      exact h2 _ _ (.arr hd b (by omega) (FlE.conv hT (by rw [← he, hT.undUnd]) h'))
  cases h with
  | @var t v cs a =>
    simp only [Tab.rowAt] at hp
    cases hps : T.pathS (.var t) p with
    | none => simp [hps] at hp
    | some ou =>
      obtain ⟨off, u⟩ := ou
      simp only [hps] at hp
      cases hd : T.d u with
      | arr m e' =>
        simp only [hd] at hp
        by_cases he : T.und e' = e
        · simp only [he, if_true, Option.some.injEq] at hp
          simp only [rowGet] at hx
          cases hg : objGet (.var t v) p with
          | none => simp [hg] at hx
          | some x =>
            cases x with
            | agg u' fs =>
              simp only [hg, Option.some.injEq] at hx
              subst hx
              exact key hps hd he hp u' hg (fun l' => by simp [rowSet, hg])
            | _ => simp [hg] at hx
        · simp [he] at hp
      | _ => simp [hd] at hp
  | @row e0 l0 total cs ss a b c d =>
    cases p with
    | nil =>
      simp only [Tab.rowAt] at hp
      by_cases he : e0 = e
      · subst he
        simp only [if_true, Option.some.injEq, Prod.mk.injEq] at hp
        obtain ⟨rfl, rfl⟩ := hp
        simp only [rowGet, Option.some.injEq] at hx
        subst hx
        refine ⟨[], cs, ss, rfl, rfl, a, b, fun l' c2' hl' h' => ⟨.row e0 l', rfl, ?_⟩⟩
        have h1 := a.length hT
        have h2 := h'.length hT
        exact (show ObjC T J (.row e0 l') (.row e0 total) (c2' ++ ss) from ObjC.row h' (by omega) (by
          simp only [List.length_append] at c ⊢
          rw [h2, hl', ← h1]; exact c) d)
      · simp [he] at hp
    | cons i p =>
      simp only [Tab.rowAt] at hp
      cases hps : T.pathS (.row e0 total) (i :: p) with
      | none => simp [hps] at hp
      | some ou =>
        obtain ⟨off, u⟩ := ou
        simp only [hps] at hp
        cases hd : T.d u with
        | arr m e' =>
          simp only [hd] at hp
          by_cases he : T.und e' = e
          · simp only [he, if_true, Option.some.injEq] at hp
            simp only [rowGet] at hx
            cases hg : objGet (.row e0 l0) (i :: p) with
            | none => simp [hg] at hx
            | some x =>
              cases x with
              | agg u' fs =>
                simp only [hg, Option.some.injEq] at hx
                subst hx
                exact key hps hd he hp u' hg (fun l' => by simp [rowSet, hg])
              | _ => simp [hg] at hx
          · simp [he] at hp
        | _ => simp [hd] at hp
theorem Below.setCells {B : Nat} {b : Nat} (hb : B ≤ b) : ∀ (vs : List Value) (o : Nat) (w : World), Below B w (w.setCells b o vs)
  | [], _, _ => Below.refl _ _
  | v :: r, o, w => (Below.setCell (Below.refl B w) (p := ⟨b, o, none⟩) hb v).trans (Below.setCells hb r (o + 1) _)
theorem heapSize_setCells (b : Nat) : ∀ (vs : List Value) (o : Nat) (w : World), (w.setCells b o vs).heap.size = w.heap.size
  | [], _, _ => rfl
  | v :: r, o, w => by rw [World.setCells, heapSize_setCells b r]; simp [World.setCell]
variable {B : Nat} {w0 w : World} {h : Heap}
theorem Rel.lt (R : Rel T B w0 J h w) : B ≤ w.heap.size := Nat.le_trans R.base R.below.size
theorem Rel.drew (R : Rel T B w0 J h w) : Rel T B w0 J h w.drew where
  below := R.below.drew
  base := R.base
  marks := R.marks
  imm := R.imm
  own := R.own
  fresh := R.fresh
  objs r ob hr := by
    cases R.objs r ob hr with
    | obj a b c => exact .obj a b c
    | tok a b c => exact .tok a b c
    | dead => exact .dead
theorem Rel.put {r : Nat} {ob ob' : Obj} {b o : Nat} {c1 c2 c2' c3 : List Value} (R : Rel T B w0 J h w) (_ho : h[r]? = some ob) (hl : J.loc r = some (b, o))
    (hh : has w J r b o (c1 ++ (c2 ++ c3))) (hlen : c2'.length = c2.length)
    (hc' : ObjC T J ob' (J.shape r) (c1 ++ (c2' ++ c3))) : Rel T B w0 J (h.set r ob') (w.setCells b (o + c1.length) c2') := by
  have hthere := hh.there
  have hmid : ∀ j, j < c2'.length → (w.cell? ⟨b, o + c1.length + j, none⟩).isSome = true := fun j hj => by
    have := (hthere (c1.length + j) (by simp; omega)).1
    rwa [← Nat.add_assoc] at this
  have hownmid : ∀ j, j < c2'.length → J.own b (o + c1.length + j) = r + 1 := fun j hj => by
    have hlt : c1.length + j < (c1 ++ (c2 ++ c3)).length := by simp; omega
    have := (hh (c1.length + j) _ (List.getElem?_eq_getElem hlt)).2.2
    rwa [← Nat.add_assoc] at this
  have hcase : c2' = [] ∨ B ≤ b := by
    cases c2' with
    | nil => exact .inl rfl
    | cons v vs =>
      have := hownmid 0 (by simp)
      exact .inr (R.own b _ (by rw [this]; omega)).1
  rcases hcase with rfl | hb
  · have : c2 = [] := by simpa using hlen.symm
    subst this
    have hw : w.setCells b (o + c1.length) [] = w := rfl
    rw [hw]
    refine R.step r (Inj.Le.refl _) (Below.refl _ _) id (fun _ _ _ _ => ⟨rfl, rfl, rfl⟩) (fun b o hbo => by simpa using R.own b o hbo) (fun _ _ _ hv => .inl hv)
      (fun q hq => R.fresh q (by simpa using hq)) (fun q ob1 hq => ?_)
    rw [List.getElem?_set] at hq
    split at hq
    · rename_i hqr
      subst hqr
      split at hq
      · simp only [Option.some.injEq] at hq
        subst hq
        exact .inr (.obj hl hc' hh)
      · cases hq
    · rename_i hqr
      exact .inl ⟨fun e => hqr e.symm, hq, rfl⟩
  · refine R.step r (Inj.Le.refl _) (Below.setCells hb _ _ _) (Marks.setCells _ _ _) (fun b1 o1 _ ho1 => ⟨?_, World.frozen?_setCells _ _ _ _ _, rfl⟩) (fun b o hbo => ?_) (fun _ _ _ hv => .inl hv)
      (fun q hq => R.fresh q (by simpa using hq)) (fun q ob1 hq => ?_)
    · refine World.cell?_setCells_out b c2' _ w _ (fun h1 _ => ?_)
      simp only at h1
      subst h1
      rcases Nat.lt_or_ge o1 (o + c1.length) with hlt | hge
      · exact .inl hlt
      · rcases Nat.lt_or_ge o1 (o + c1.length + c2'.length) with hlt2 | hge2
        · exfalso
          apply ho1
          have := hownmid (o1 - (o + c1.length)) (by omega)
          rwa [Nat.add_sub_cancel' hge] at this
        · exact .inr hge2
    · rw [heapSize_setCells]; simpa using R.own b o hbo
    · rw [List.getElem?_set] at hq
      split at hq
      · rename_i hqr
        subst hqr
        split at hq
        · simp only [Option.some.injEq] at hq
          subst hq
          refine .inr (.obj hl hc' (fun i c hi => ?_))
          rw [World.frozen?_setCells]
          have hlt : i < (c1 ++ (c2' ++ c3)).length := (List.getElem?_eq_some_iff.1 hi).1
          have hlt' : i < (c1 ++ (c2 ++ c3)).length := by simp at hlt ⊢; omega
          have hold := hh i _ (List.getElem?_eq_getElem hlt')
          refine ⟨?_, hold.2⟩
          rcases Nat.lt_or_ge i c1.length with h1 | h1
          · rw [World.cell?_setCells_out b c2' _ w _ (fun _ _ => .inl (by simp; omega)), hold.1, ← hi]
            rw [← List.getElem?_eq_getElem hlt', List.getElem?_append_left h1, List.getElem?_append_left h1]
          · rcases Nat.lt_or_ge i (c1.length + c2'.length) with h2 | h2
            · have := World.cell?_setCells_in b c2' (o + c1.length) w hmid (i - c1.length) (by omega)
              rw [show o + c1.length + (i - c1.length) = o + i by omega] at this
              rw [this, ← hi, List.getElem?_append_right h1, List.getElem?_append_left (by omega), List.getElem?_eq_getElem]
            · rw [World.cell?_setCells_out b c2' _ w _ (fun _ _ => .inr (by simp; omega)), hold.1, ← hi]
              rw [List.getElem?_append_right h1, List.getElem?_append_right (by omega)]
              rw [← List.getElem?_eq_getElem hlt', List.getElem?_append_right h1, List.getElem?_append_right (by omega), hlen]
        · cases hq
      · rename_i hqr
        exact .inl ⟨fun e => hqr e.symm, hq, rfl⟩
end
end Go.Ax

namespace Go.Ax
open Go Go.RowKit
section
variable {T : Tab} {J : Inj} {B : Nat} {w0 w : World} {h : Heap}
def Inj.newObj (J : Inj) (r blk : Nat) (s : Shape) (n : Nat) : Inj :=
  { J with
    loc := fun q => if q = r then some (blk, 0) else J.loc q
    shape := fun q => if q = r then s else J.shape q
    own := fun b o => if b = blk then (if o < n then r + 1 else 0) else J.own b o }
theorem Inj.newObj_le {J : Inj} {r blk s n} (hr : J.loc r = none) : J.Le (J.newObj r blk s n) where
  imm _ _ _ hv := hv
  loc q x hq := by
    have : q ≠ r := fun e => by rw [e, hr] at hq; cases hq
    simp [Inj.newObj, this, hq]
  tloc _ _ _ hv := hv
theorem Rel.own_new (R : Rel T B w0 J h w) (o : Nat) : J.own w.heap.size o = 0 := by
  rcases Nat.eq_zero_or_pos (J.own w.heap.size o) with h1 | h1
  · exact h1
  · have := (R.own w.heap.size o (by omega)).2.1
    omega
theorem Rel.imm_new (R : Rel T B w0 J h w) (o : Nat) : J.imm w.heap.size o = none := by
  cases hv : J.imm w.heap.size o with
  | none => rfl
  | some v =>
    have := cell?_lt (R.imm _ _ _ hv).1
    omega
theorem alloc_size (o : Go.Obj) : (w.alloc o).heap.size = w.heap.size + 1 := Array.size_push _
theorem Rel.new (R : Rel T B w0 J h w) {ob : Obj} {s : Shape} {cs : List Value} (t : TypeId) (hc : ObjC T J ob s cs) :
    ∃ J', J.Le J' ∧ J'.loc h.length = some (w.heap.size, 0) ∧ J'.shape h.length = s ∧ Rel T B w0 J' (h ++ [ob]) (w.alloc (.cells cs.toArray t)) := by
  have hr := (R.fresh h.length (Nat.le_refl _))
  have hle : J.Le (J.newObj h.length w.heap.size s cs.length) := Inj.newObj_le hr.1
  refine ⟨J.newObj h.length w.heap.size s cs.length, hle, by simp [Inj.newObj], by simp [Inj.newObj], ?_⟩
  refine R.step h.length hle ((Below.refl _ _).alloc R.lt _) (·.alloc (.inl rfl)) (fun b o hb _ => ⟨?_, ?_, ?_⟩) (fun b o hbo => ?_) (fun b o v hv => .inl hv) (fun q hq => ?_) (fun q ob1 hq => ?_)
  · exact World.cell?_alloc_past _ _ _ hb
  · exact World.frozen?_alloc_past _ _ _ hb
  · simp [Inj.newObj, show b ≠ w.heap.size by omega]
  · rw [alloc_size]
    simp only [Inj.newObj] at hbo ⊢
    have hB := R.lt
    split at hbo
    · rename_i hb
      subst hb
      split at hbo
      · rename_i hlt
        simp only [hlt, if_true, List.length_append, List.length_cons, List.length_nil]; omega
      · simp at hbo
    · rename_i hb
      have := R.own b o hbo
      simp [hb]; omega
  · simp only [List.length_append, List.length_cons, List.length_nil] at hq
    have := R.fresh q (by omega)
    simp [Inj.newObj, show q ≠ h.length by omega, this.1, this.2]
  · rcases Nat.lt_or_ge q h.length with hlt | hge
    · rw [List.getElem?_append_left hlt] at hq
      exact .inl ⟨by omega, hq, rfl⟩
    · rw [List.getElem?_append_right hge] at hq
      cases hqq : q - h.length with
      | zero =>
        rw [hqq] at hq
        simp only [List.getElem?_cons_zero, Option.some.injEq] at hq
        subst hq
        have : q = h.length := by omega
        subst this
        refine .inr (.obj (b := w.heap.size) (o := 0) (cs := cs) (by simp [Inj.newObj]) (by simpa [Inj.newObj] using hc.le hle) (fun i c hi => ?_))
        have hilt := (List.getElem?_eq_some_iff.1 hi).1
        refine ⟨?_, ?_, ?_⟩
        · rw [Nat.zero_add, World.cell?_alloc_at _ _ _ _ rfl]; simpa using hi
        · rw [World.frozen?_alloc_at _ _ _ _ rfl]
        · simp [Inj.newObj, hilt]
      | succ k => rw [hqq] at hq; simp at hq
def Inj.newImm (J : Inj) (blk : Nat) (cs : List Value) : Inj :=
  { J with imm := fun b o => if b = blk then cs[o]? else J.imm b o }
theorem Rel.newImm_le (R : Rel T B w0 J h w) (cs : List Value) : J.Le (J.newImm w.heap.size cs) where
  imm b o v hv := by
    have : b ≠ w.heap.size := fun e => by rw [e, R.imm_new] at hv; cases hv
    simp [Inj.newImm, this, hv]
  loc _ _ hv := ⟨hv, rfl⟩
  tloc _ _ _ hv := hv
theorem Rel.newImm (R : Rel T B w0 J h w) (cs : List Value) (t : TypeId) (C : Array Value) (fr : Nat × Nat) (hC : ∀ (i : Nat) (v : Value), cs[i]? = some v → C[i]? = some v) (hm : fr.1 = fr.2 ∨ C.size ≤ fr.1) :
    J.Le (J.newImm w.heap.size cs) ∧ (J.newImm w.heap.size cs).imms w.heap.size 0 cs ∧ Rel T B w0 (J.newImm w.heap.size cs) h (w.alloc (.cells C t fr)) := by
  have hle := R.newImm_le cs
  refine ⟨hle, fun i v hv => by simpa [Inj.newImm] using hv, ?_⟩
  refine R.step h.length hle ((Below.refl _ _).alloc R.lt _) (·.alloc hm) (fun b o hb _ => ⟨?_, ?_, rfl⟩) (fun b o hbo => ?_) (fun b o v hv => ?_) (fun q hq => R.fresh q hq) (fun q ob1 hq => ?_)
  · exact World.cell?_alloc_past _ _ _ hb
  · exact World.frozen?_alloc_past _ _ _ hb
  · rw [alloc_size]
    have := R.own b o hbo
    exact ⟨this.1, by omega, this.2.2⟩
  · simp only [Inj.newImm] at hv
    split at hv
    · rename_i hb
      subst hb
      right
      refine ⟨?_, R.own_new o⟩
      rw [World.cell?_alloc_mark]
      exact hC _ _ hv
    · exact .inl hv
  · exact .inl ⟨by have := (List.getElem?_eq_some_iff.1 hq).1; omega, hq, rfl⟩
def Inj.newTok (J : Inj) (r blk : Nat) (cs : List Value) (n : Nat) : Inj :=
  { J with
    imm := fun b o => if b = blk then cs[o]? else J.imm b o
    tloc := fun q g => if q = r then (if g = 0 then some (blk, cs.length, n) else none) else J.tloc q g
    own := fun b o => if b = blk then (if cs.length ≤ o ∧ o < cs.length + n then r + 1 else 0) else J.own b o }
theorem Rel.newTok_le (R : Rel T B w0 J h w) (cs : List Value) (n : Nat) : J.Le (J.newTok h.length w.heap.size cs n) where
  imm b o v hv := by
    have : b ≠ w.heap.size := fun e => by rw [e, R.imm_new] at hv; cases hv
    simp [Inj.newTok, this, hv]
  loc _ _ hv := ⟨hv, rfl⟩
  tloc q g x hq := by
    have : q ≠ h.length := fun e => by rw [e, (R.fresh _ (Nat.le_refl _)).2] at hq; cases hq
    simp [Inj.newTok, this, hq]
theorem Rel.newTok (R : Rel T B w0 J h w) (cs ss : List Value) (t : TypeId) (fr : Nat × Nat) (hfr : fr.1 ≥ cs.length + ss.length ∨ fr = (0, 0)) :
    J.Le (J.newTok h.length w.heap.size cs ss.length) ∧ (J.newTok h.length w.heap.size cs ss.length).imms w.heap.size 0 cs ∧
    (J.newTok h.length w.heap.size cs ss.length).tloc h.length 0 = some (w.heap.size, cs.length, ss.length) ∧
    Rel T B w0 (J.newTok h.length w.heap.size cs ss.length) (h ++ [.tok 0]) (w.alloc (.cells (cs ++ ss).toArray t fr)) := by
  have hle := R.newTok_le cs ss.length
  refine ⟨hle, fun i v hv => by simpa [Inj.newTok] using hv, by simp [Inj.newTok], ?_⟩
  refine R.step h.length hle ((Below.refl _ _).alloc R.lt _) (·.alloc (by rcases hfr with h | rfl; exact .inr (by simpa using h); exact .inl rfl)) (fun b o hb _ => ⟨?_, ?_, ?_⟩) (fun b o hbo => ?_) (fun b o v hv => ?_) (fun q hq => ?_) (fun q ob1 hq => ?_)
  · exact World.cell?_alloc_past _ _ _ hb
  · exact World.frozen?_alloc_past _ _ _ hb
  · simp [Inj.newTok, show b ≠ w.heap.size by omega]
  · rw [alloc_size]
    simp only [Inj.newTok] at hbo ⊢
    have hB := R.lt
    split at hbo
    · rename_i hb
      subst hb
      split at hbo
      · rename_i hlt
        rw [if_pos rfl, if_pos hlt]
        simp only [List.length_append, List.length_cons, List.length_nil]; omega
      · simp at hbo
    · rename_i hb
      have := R.own b o hbo
      simp [hb]; omega
  · simp only [Inj.newTok] at hv ⊢
    split at hv
    · rename_i hb
      subst hb
      right
      have := (List.getElem?_eq_some_iff.1 hv).1
      refine ⟨?_, by simp; omega⟩
      rw [World.cell?_alloc_mark, List.getElem?_toArray, List.getElem?_append_left this]
      exact hv
    · exact .inl hv
  · simp only [List.length_append, List.length_cons, List.length_nil] at hq
    have := R.fresh q (by omega)
    simp [Inj.newTok, show q ≠ h.length by omega, this.1, this.2]
  · rcases Nat.lt_or_ge q h.length with hlt | hge
    · rw [List.getElem?_append_left hlt] at hq
      refine .inl ⟨by omega, hq, ?_⟩
      funext g
      simp [Inj.newTok, show q ≠ h.length by omega]
    · rw [List.getElem?_append_right hge] at hq
      cases hqq : q - h.length with
      | zero =>
        rw [hqq] at hq
        simp only [List.getElem?_cons_zero, Option.some.injEq] at hq
        subst hq
        have : q = h.length := by omega
        subst this
        refine .inr (.tok (b := w.heap.size) (o := cs.length) (ss := ss) (by simp [Inj.newTok]) (fun g' hg => by simp [Inj.newTok]; omega) (fun i c hi => ?_))
        have hilt := (List.getElem?_eq_some_iff.1 hi).1
        refine ⟨?_, ?_, ?_⟩
        · rw [World.cell?_alloc_mark, List.getElem?_toArray, List.getElem?_append_right (by omega), Nat.add_sub_cancel_left]; exact hi
        · obtain ⟨lo, hi'⟩ := fr
          rw [World.frozen?_alloc_mark]
          rcases hfr with hfr | hfr
          · simp only at hfr
            simp; omega
          · simp only [Prod.mk.injEq] at hfr
            simp; omega
        · simp only [Inj.newTok, if_true]
          rw [if_pos (by omega)]
      | succ k => rw [hqq] at hq; simp at hq
def Inj.grow (J : Inj) (r g b o : Nat) (cs : List Value) (n : Nat) : Inj :=
  { J with
    imm := fun b' o' => if b' = b ∧ o ≤ o' ∧ o' < o + cs.length then cs[o' - o]? else J.imm b' o'
    tloc := fun q g' => if q = r ∧ g' = g + 1 then some (b, o + cs.length, n) else J.tloc q g'
    own := fun b' o' => if b' = b ∧ o ≤ o' ∧ o' < o + cs.length then 0 else J.own b' o' }
theorem Rel.grow {r g b o : Nat} {ss cs : List Value} (R : Rel T B w0 J h w) (hr : h[r]? = some (.tok g)) (hloc : J.tloc r g = some (b, o, ss.length))
    (hlen : cs.length ≤ ss.length) :
    J.Le (J.grow r g b o cs (ss.length - cs.length)) ∧ (J.grow r g b o cs (ss.length - cs.length)).imms b o cs ∧
    (J.grow r g b o cs (ss.length - cs.length)).tloc r (g + 1) = some (b, o + cs.length, ss.length - cs.length) ∧
    Rel T B w0 (J.grow r g b o cs (ss.length - cs.length)) (h.set r (.tok (g + 1))) (w.setCells b o cs) ∧ w.there b o cs.length := by
  have hrl : r < h.length := (List.getElem?_eq_some_iff.1 hr).1
  obtain ⟨hfr, ss', hss', hh⟩ : (∀ g', g < g' → J.tloc r g' = none) ∧ ∃ ss' : List Value, ss'.length = ss.length ∧ has w J r b o ss' := by
    cases R.objs r _ hr with
    | obj a b c => cases b
    | tok a b c =>
      rw [hloc] at a
      simp only [Option.some.injEq, Prod.mk.injEq] at a
      obtain ⟨rfl, rfl, hl⟩ := a
      exact ⟨b, _, hl.symm, c⟩
  have hthere : w.there b o cs.length := fun i hi => hh.there i (by omega)
  have hownmid : ∀ j, j < ss'.length → J.own b (o + j) = r + 1 := fun j hj => (hh j _ (List.getElem?_eq_getElem hj)).2.2
  have hle : J.Le (J.grow r g b o cs (ss.length - cs.length)) := by
    refine ⟨fun b' o' v hv => ?_, fun _ _ hv => ⟨hv, rfl⟩, fun q g' x hq => ?_⟩
    · have h0 := (R.imm b' o' v hv).2
      have : ¬ (b' = b ∧ o ≤ o' ∧ o' < o + cs.length) := by
        rintro ⟨rfl, h1, h2⟩
        have := hownmid (o' - o) (by omega)
        rw [Nat.add_sub_cancel' h1] at this
        omega
      simp [Inj.grow, this, hv]
    · have : ¬ (q = r ∧ g' = g + 1) := by
        rintro ⟨rfl, rfl⟩
        rw [hfr _ (by omega)] at hq
        cases hq
      simp [Inj.grow, this, hq]
  refine ⟨hle, fun i v hv => ?_, by simp [Inj.grow], ?_, hthere⟩
  · have := (List.getElem?_eq_some_iff.1 hv).1
    simp only [Inj.grow]
    rw [if_pos ⟨trivial, by omega, by omega⟩, Nat.add_sub_cancel_left]
    exact hv
  have hBcase : cs = [] ∨ B ≤ b := by
    cases cs with
    | nil => exact .inl rfl
    | cons v vs =>
      have := hownmid 0 (by simp at hlen; omega)
      exact .inr (R.own b _ (by rw [this]; omega)).1
  have hBel : Below B w (w.setCells b o cs) := by
    rcases hBcase with rfl | hb
    · exact Below.refl _ _
    · exact Below.setCells hb _ _ _
  refine R.step r hle hBel (Marks.setCells _ _ _) (fun b1 o1 _ ho1 => ⟨?_, World.frozen?_setCells _ _ _ _ _, ?_⟩) (fun b' o' hbo => ?_) (fun b' o' v hv => ?_) (fun q hq => ?_) (fun q ob1 hq => ?_)
  · refine World.cell?_setCells_out b cs _ w _ (fun h1 _ => ?_)
    simp only at h1
    subst h1
    rcases Nat.lt_or_ge o1 o with hlt | hge
    · exact .inl hlt
    · rcases Nat.lt_or_ge o1 (o + cs.length) with hlt2 | hge2
      · exfalso
        apply ho1
        have := hownmid (o1 - o) (by omega)
        rwa [Nat.add_sub_cancel' hge] at this
      · exact .inr hge2
  · have : ¬ (b1 = b ∧ o ≤ o1 ∧ o1 < o + cs.length) := by
      rintro ⟨rfl, h1, h2⟩
      have := hownmid (o1 - o) (by omega)
      rw [Nat.add_sub_cancel' h1] at this
      exact ho1 this
    simp only [Inj.grow, this, if_false]
  · rw [heapSize_setCells]
    simp only [Inj.grow] at hbo ⊢
    split at hbo
    · simp at hbo
    · rename_i hn
      have := R.own b' o' hbo
      simp only [hn, if_false, List.length_set]
      omega
  · simp only [Inj.grow] at hv ⊢
    split at hv
    · rename_i hb
      obtain ⟨rfl, h1, h2⟩ := hb
      right
      refine ⟨?_, by simp [h1, h2]⟩
      have := World.cell?_setCells_in b' cs o w (fun j hj => (hthere j hj).1) (o' - o) (by omega)
      rw [Nat.add_sub_cancel' h1] at this
      rw [this, ← hv, List.getElem?_eq_getElem]
    · exact .inl hv
  · have := R.fresh q (by simpa using hq)
    simp only [List.length_set] at hq
    simp [Inj.grow, show q ≠ r by omega, this.1, this.2]
  · rw [List.getElem?_set] at hq
    split at hq
    · rename_i hqr
      subst hqr
      simp only [Option.some.injEq] at hq
      subst hq
      refine .inr (.tok (b := b) (o := o + cs.length) (ss := ss'.drop cs.length) (by simp [Inj.grow, hss']) (fun g' hg => ?_) (fun i c hi => ?_))
      · simp only [Inj.grow]
        rw [if_neg (by omega)]
        exact hfr _ (by omega)
      · rw [List.getElem?_drop] at hi
        have hold := hh _ _ hi
        have hlt := (List.getElem?_eq_some_iff.1 hi).1
        rw [← Nat.add_assoc] at hold
        refine ⟨?_, by rw [World.frozen?_setCells]; exact hold.2.1, ?_⟩
        · rw [World.cell?_setCells_out b cs _ w _ (fun _ _ => .inr (by simp))]
          exact hold.1
        · simp only [Inj.grow]
          rw [if_neg (by omega)]
          exact hold.2.2
    · rename_i hqr
      refine .inl ⟨fun e => hqr e.symm, hq, ?_⟩
      funext g'
      simp [Inj.grow, show q ≠ r from fun e => hqr e.symm]
def Inj.moveTok (J : Inj) (r g blk : Nat) (cs : List Value) (n : Nat) : Inj :=
  { J with
    imm := fun b o => if b = blk then cs[o]? else J.imm b o
    tloc := fun q g' => if q = r ∧ g' = g + 1 then some (blk, cs.length, n) else J.tloc q g'
    own := fun b o => if b = blk then (if cs.length ≤ o ∧ o < cs.length + n then r + 1 else 0) else J.own b o }
theorem Rel.moveTok {r g : Nat} (R : Rel T B w0 J h w) (hr : h[r]? = some (.tok g)) (cs ss : List Value) (t : TypeId) :
    J.Le (J.moveTok r g w.heap.size cs ss.length) ∧ (J.moveTok r g w.heap.size cs ss.length).imms w.heap.size 0 cs ∧
    (J.moveTok r g w.heap.size cs ss.length).tloc r (g + 1) = some (w.heap.size, cs.length, ss.length) ∧
    Rel T B w0 (J.moveTok r g w.heap.size cs ss.length) (h.set r (.tok (g + 1))) (w.alloc (.cells (cs ++ ss).toArray t)) := by
  have hrl : r < h.length := (List.getElem?_eq_some_iff.1 hr).1
  have hfr : ∀ g', g < g' → J.tloc r g' = none := by
    cases R.objs r _ hr with
    | obj a b c => cases b
    | tok a b c => exact b
  have hle : J.Le (J.moveTok r g w.heap.size cs ss.length) := by
    refine ⟨fun b o v hv => ?_, fun _ _ hv => ⟨hv, rfl⟩, fun q g' x hq => ?_⟩
    · have : b ≠ w.heap.size := fun e => by rw [e, R.imm_new] at hv; cases hv
      simp [Inj.moveTok, this, hv]
    · have : ¬ (q = r ∧ g' = g + 1) := by
        rintro ⟨rfl, rfl⟩
        rw [hfr _ (by omega)] at hq
        cases hq
      simp [Inj.moveTok, this, hq]
  refine ⟨hle, fun i v hv => by simpa [Inj.moveTok] using hv, by simp [Inj.moveTok], ?_⟩
  refine R.step r hle ((Below.refl _ _).alloc R.lt _) (·.alloc (.inl rfl)) (fun b o hb _ => ⟨?_, ?_, ?_⟩) (fun b o hbo => ?_) (fun b o v hv => ?_) (fun q hq => ?_) (fun q ob1 hq => ?_)
  · exact World.cell?_alloc_past _ _ _ hb
  · exact World.frozen?_alloc_past _ _ _ hb
  · simp [Inj.moveTok, show b ≠ w.heap.size by omega]
  · rw [alloc_size]
    simp only [Inj.moveTok] at hbo ⊢
    have hB := R.lt
    split at hbo
    · rename_i hb
      subst hb
      split at hbo
      · rename_i hlt
        rw [if_pos rfl, if_pos hlt]
        simp only [List.length_set]; omega
      · simp at hbo
    · rename_i hb
      have := R.own b o hbo
      simp [hb]; omega
  · simp only [Inj.moveTok] at hv ⊢
    split at hv
    · rename_i hb
      subst hb
      right
      have := (List.getElem?_eq_some_iff.1 hv).1
      refine ⟨?_, by simp; omega⟩
      rw [World.cell?_alloc_at _ _ _ _ rfl, List.getElem?_toArray, List.getElem?_append_left this]
      exact hv
    · exact .inl hv
  · simp only [List.length_set] at hq
    have := R.fresh q hq
    simp [Inj.moveTok, show q ≠ r by omega, this.1, this.2]
  · rw [List.getElem?_set] at hq
    split at hq
    · rename_i hqr
      subst hqr
      simp only [Option.some.injEq] at hq
      subst hq
      refine .inr (.tok (b := w.heap.size) (o := cs.length) (ss := ss) (by simp [Inj.moveTok]) (fun g' hg => ?_) (fun i c hi => ?_))
      · simp only [Inj.moveTok]
        rw [if_neg (by omega)]
        exact hfr _ (by omega)
      · have hilt := (List.getElem?_eq_some_iff.1 hi).1
        refine ⟨?_, ?_, ?_⟩
        · rw [World.cell?_alloc_at _ _ _ _ rfl, List.getElem?_toArray, List.getElem?_append_right (by omega), Nat.add_sub_cancel_left]; exact hi
        · rw [World.frozen?_alloc_at _ _ _ _ rfl]
        · simp only [Inj.moveTok, if_true]
          rw [if_pos (by omega)]
    · rename_i hqr
      refine .inl ⟨fun e => hqr e.symm, hq, ?_⟩
      funext g'
      simp [Inj.moveTok, show q ≠ r from fun e => hqr e.symm]
def Inj.frozen (J : Inj) (b o : Nat) (cs : List Value) : Inj :=
  { J with
    imm := fun b' o' => if b' = b ∧ o ≤ o' ∧ o' < o + cs.length then cs[o' - o]? else J.imm b' o'
    own := fun b' o' => if b' = b ∧ o ≤ o' ∧ o' < o + cs.length then 0 else J.own b' o' }
theorem Rel.freeze {r b o : Nat} {e : Ty} {l : List AV} (R : Rel T B w0 J h w) (hr : h[r]? = some (.row e l)) (hloc : J.loc r = some (b, o)) :
    ∃ cs, FlE T J e l cs ∧ J.Le (J.frozen b o cs) ∧ (J.frozen b o cs).imms b o cs ∧ Rel T B w0 (J.frozen b o cs) (h.set r .dead) w := by
  obtain ⟨ds, hc, hh⟩ : ∃ ds, ObjC T J (.row e l) (J.shape r) ds ∧ has w J r b o ds := by
    cases R.objs r _ hr with
    | obj a c d => rw [hloc] at a; cases a; exact ⟨_, c, d⟩
  generalize J.shape r = s at hc
  cases hc with
  | @row _ _ total cs ss a _ _ _ =>
    rw [has.append] at hh
    have hh1 := hh.1
    have hownmid : ∀ j, j < cs.length → J.own b (o + j) = r + 1 := fun j hj => (hh1 j _ (List.getElem?_eq_getElem hj)).2.2
    have hle : J.Le (J.frozen b o cs) := by
      refine ⟨fun b' o' v hv => ?_, fun _ _ hv => ⟨hv, rfl⟩, fun q g' x hq => hq⟩
      have h0 := (R.imm b' o' v hv).2
      have : ¬ (b' = b ∧ o ≤ o' ∧ o' < o + cs.length) := by
        rintro ⟨rfl, h1, h2⟩
        have := hownmid (o' - o) (by omega)
        rw [Nat.add_sub_cancel' h1] at this
        omega
      simp [Inj.frozen, this, hv]
    refine ⟨cs, a, hle, fun i v hv => ?_, ?_⟩
    · have := (List.getElem?_eq_some_iff.1 hv).1
      simp only [Inj.frozen]
      rw [if_pos ⟨trivial, by omega, by omega⟩, Nat.add_sub_cancel_left]
      exact hv
    refine R.step r hle (Below.refl _ _) id (fun b1 o1 _ ho1 => ⟨rfl, rfl, ?_⟩) (fun b' o' hbo => ?_) (fun b' o' v hv => ?_) (fun q hq => ?_) (fun q ob1 hq => ?_)
    · have : ¬ (b1 = b ∧ o ≤ o1 ∧ o1 < o + cs.length) := by
        rintro ⟨rfl, h1, h2⟩
        have := hownmid (o1 - o) (by omega)
        rw [Nat.add_sub_cancel' h1] at this
        exact ho1 this
      simp only [Inj.frozen, this, if_false]
    · simp only [Inj.frozen] at hbo ⊢
      split at hbo
      · simp at hbo
      · rename_i hn
        have := R.own b' o' hbo
        simp only [hn, if_false, List.length_set]
        omega
    · simp only [Inj.frozen] at hv ⊢
      split at hv
      · rename_i hb
        obtain ⟨rfl, h1, h2⟩ := hb
        right
        refine ⟨?_, by simp [h1, h2]⟩
        have := (hh1 _ _ hv).1
        rwa [Nat.add_sub_cancel' h1] at this
      · exact .inl hv
    · exact R.fresh q (by simpa using hq)
    · rw [List.getElem?_set] at hq
      split at hq
      · split at hq
        · simp only [Option.some.injEq] at hq
          subst hq
          exact .inr .dead
        · cases hq
      · rename_i hqr
        exact .inl ⟨fun e => hqr e.symm, hq, rfl⟩
theorem Rel.mark (R : Rel T B w0 J h w) {b n : Nat} {e : TypeId} (hb : B ≤ b) (hs : w.shape? b = some (e, n)) : Rel T B w0 J h (w.freeze ⟨b, n, none⟩ 1) := by
  obtain ⟨c, f, hc, rfl⟩ : ∃ c f, w.heap[b]? = some (.cells c e f) ∧ c.size = n := by
    unfold World.shape? at hs
    split at hs
    · rename_i c e' f hw
      simp only [Option.some.injEq, Prod.mk.injEq] at hs
      obtain ⟨rfl, rfl⟩ := hs
      exact ⟨c, f, hw, rfl⟩
    · cases hs
  obtain ⟨lo, hi⟩ := f
  have hmk : lo = hi ∨ c.size ≤ lo := R.marks b hb _ hc
  obtain ⟨hi', hget⟩ : ∃ hi', ∀ k, (w.freeze ⟨b, c.size, none⟩ 1).heap[k]? = if b = k then some (.cells c e (c.size, hi')) else w.heap[k]? := by
    by_cases hlo : lo = hi
    · refine ⟨c.size + 1, fun k => ?_⟩
      unfold World.freeze
      rw [if_neg (by decide)]
      simp only [Array.getElem?_modify]
      split
      · rename_i hk; subst hk; rw [hc]; simp [hlo]
      · rfl
    · refine ⟨max hi (c.size + 1), fun k => ?_⟩
      unfold World.freeze
      rw [if_neg (by decide)]
      simp only [Array.getElem?_modify]
      split
      · rename_i hk; subst hk; rw [hc]; simp [hlo, Nat.min_eq_right (hmk.resolve_left hlo)]
      · rfl
  have hsize : (w.freeze ⟨b, c.size, none⟩ 1).heap.size = w.heap.size := by
    unfold World.freeze; rw [if_neg (by decide)]; simp
  have hcell : ∀ b' o', (w.freeze ⟨b, c.size, none⟩ 1).cell? ⟨b', o', none⟩ = w.cell? ⟨b', o', none⟩ := fun b' o' => by
    by_cases hk : b = b'
    · subst hk; simp only [World.cell?, hget, if_true, hc]
    · simp only [World.cell?, hget, if_neg hk]
  have hfro : ∀ b' o' v, w.cell? ⟨b', o', none⟩ = some v → w.frozen? ⟨b', o', none⟩ = false → (w.freeze ⟨b, c.size, none⟩ 1).frozen? ⟨b', o', none⟩ = false := fun b' o' v hv hf => by
    by_cases hk : b = b'
    · subst hk
      simp only [World.cell?, hc] at hv
      have : o' < c.size := (Array.getElem?_eq_some_iff.1 (by simpa using hv)).1
      simp only [World.frozen?, hget, if_true]
      simp; omega
    · simp only [World.frozen?, hget, if_neg hk] at hf ⊢
      exact hf
  have hhas : ∀ {r b' o' cs}, has w J r b' o' cs → has (w.freeze ⟨b, c.size, none⟩ 1) J r b' o' cs := fun hc i v hi => by
    have := hc i v hi
    exact ⟨by rw [hcell]; exact this.1, hfro _ _ _ this.1 this.2.1, this.2.2⟩
  refine ⟨R.below.trans ⟨?_, ?_, ?_, by omega, fun k hk => ?_⟩, R.base, fun k hk ob ho => ?_, fun b' o' v hv => ?_, fun b' o' ho => ?_, R.fresh, fun r ob hr => ?_⟩
  · unfold World.freeze; rw [if_neg (by decide)]
  · unfold World.freeze; rw [if_neg (by decide)]
  · unfold World.freeze; rw [if_neg (by decide)]
  · rw [hget, if_neg (by omega)]
  · rw [hget] at ho
    split at ho
    · cases ho; exact .inr (Nat.le_refl _)
    · exact R.marks k hk ob ho
  · rw [hcell]; exact R.imm b' o' v hv
  · rw [hsize]; exact R.own b' o' ho
  · cases R.objs r ob hr with
    | obj a b c => exact .obj a b (hhas c)
    | tok a b c => exact .tok a b (hhas c)
    | dead => exact .dead
theorem Rel.drop {r : Nat} (R : Rel T B w0 J h w) : Rel T B w0 J (h.set r .dead) w := by
  refine R.step r (Inj.Le.refl _) (Below.refl _ _) id (fun _ _ _ _ => ⟨rfl, rfl, rfl⟩) (fun b o hbo => by simpa using R.own b o hbo) (fun _ _ _ hv => .inl hv)
    (fun q hq => R.fresh q (by simpa using hq)) (fun q ob hq => ?_)
  rw [List.getElem?_set] at hq
  split at hq
  · split at hq
    · cases hq; exact .inr .dead
    · cases hq
  · rename_i hqr
    exact .inl ⟨fun e => hqr e.symm, hq, rfl⟩
def Inj.renamed (J : Inj) (r n b o : Nat) (s : Shape) : Inj :=
  { J with
    loc := fun q => if q = n then some (b, o) else J.loc q
    shape := fun q => if q = n then s else J.shape q
    own := fun b' o' => if J.own b' o' = r + 1 then n + 1 else J.own b' o' }
theorem Rel.rename {r b o : Nat} {ob : Obj} (R : Rel T B w0 J h w) (hr : h[r]? = some ob) (hloc : J.loc r = some (b, o)) (hk : (∀ g, ob ≠ .tok g) ∧ ob ≠ .dead) :
    J.Le (J.renamed r h.length b o (J.shape r)) ∧ Rel T B w0 (J.renamed r h.length b o (J.shape r)) (h.set r .dead ++ [ob]) w := by
  have hrl : r < h.length := (List.getElem?_eq_some_iff.1 hr).1
  have hle : J.Le (J.renamed r h.length b o (J.shape r)) := by
    refine ⟨fun _ _ _ hv => hv, fun q x hq => ?_, fun _ _ _ hv => hv⟩
    have : q ≠ h.length := fun e => by rw [e, (R.fresh _ (Nat.le_refl _)).1] at hq; cases hq
    simp [Inj.renamed, this, hq]
  refine ⟨hle, ?_⟩
  refine R.step r hle (Below.refl _ _) id (fun b1 o1 _ ho1 => ⟨rfl, rfl, ?_⟩) (fun b' o' hbo => ?_) (fun _ _ _ hv => .inl hv) (fun q hq => ?_) (fun q ob1 hq => ?_)
  · simp only [Inj.renamed]; rw [if_neg ho1]
  · simp only [Inj.renamed] at hbo ⊢
    simp only [List.length_append, List.length_set, List.length_cons, List.length_nil]
    split
    · rename_i h1
      have := R.own b' o' (by omega)
      omega
    · rename_i h1
      rw [if_neg h1] at hbo
      have := R.own b' o' hbo
      omega
  · simp only [List.length_append, List.length_set, List.length_cons, List.length_nil] at hq
    have := R.fresh q (by omega)
    simp only [Inj.renamed]
    rw [if_neg (by omega)]
    exact this
  · rcases Nat.lt_trichotomy q h.length with hlt | rfl | hgt
    · rw [List.getElem?_append_left (by simpa using hlt), List.getElem?_set] at hq
      split at hq
      · cases hq
        exact .inr .dead
      · rename_i hqr
        exact .inl ⟨fun e => hqr e.symm, hq, rfl⟩
    · rw [List.getElem?_append_right (by simp)] at hq
      simp only [List.length_set, Nat.sub_self, List.getElem?_cons_zero, Option.some.injEq] at hq
      subst hq
      right
      cases R.objs r _ hr with
      | obj a c d =>
        rw [hloc] at a
        cases a
        refine .obj (b := b) (o := o) (by simp [Inj.renamed]) (by simp only [Inj.renamed, if_true]; exact c.le hle) fun i v hi => ?_
        have := d i v hi
        refine ⟨this.1, this.2.1, ?_⟩
        simp only [Inj.renamed]
        rw [if_pos this.2.2]
      | tok a c d => exact absurd rfl (hk.1 _)
      | dead => exact absurd rfl hk.2
    · rw [List.getElem?_eq_none (by simp; omega)] at hq
      cases hq
end
end Go.Ax

namespace Go.Ax
open Go
inductive Ann where
  | plain
  | freeze
  | mut
  | flip
  deriving DecidableEq
structure Cfg where
  T : Tab
  ann : FuncId → Nat → Ann
  keep : FuncId → Nat → Option (List Nat)
  cnt : FuncId → Bool
def clrFrom (l : List Nat) : Nat → List AV → List AV
  | _, [] => []
  | i, v :: tm => (if l.contains i then v else .undef) :: clrFrom l (i + 1) tm
def clr (l : Option (List Nat)) (tm : List AV) : List AV :=
  match l with
  | some l => clrFrom l 0 tm
  | none => tm
def liftC : Value → AV
  | .int k n => .int k n
  | .bool b => .bool b
  | .string s => .str s
  | .pointer none => .nilp
  | .slice none 0 0 => .nils
  | .nilFunc => .nilf
  | .map none => .nilm
  | .nilIface => .nili
  | _ => .undef
def evalA (tm : List AV) : Operand → AV
  | .tmp t => tm.getD t .undef
  | .const v => liftC v
  | .global _ => .undef
  | .func f => .fn (.func f) []
def ofPure : Sem Value → Option AV
  | .pure (.int k n) => some (.int k n)
  | .pure (.bool b) => some (.bool b)
  | .pure (.string s) => some (.str s)
  | _ => none
def fits (T : Tab) (t : Ty) : AV → Bool
  | .agg u _ => T.und t == u
  | .tuple _ => false
  | .undef => false
  | .skip => false
  | .mapr _ => false
  | _ => T.cell t
mutual
def zeroAV (T : Tab) : Nat → Ty → Option AV
  | 0, _ => none
  | k + 1, t => match T.d t with
    | .int kd => some (.int kd 0)
    | .bool => some (.bool false)
    | .str => some (.str .empty)
    | .ptr _ => some .nilp
    | .slice _ => some .nils
    | .map _ _ => some .nilm
    | .func => some .nilf
    | .iface => some .nili
    | .struct ts => match zeroAVs T k ts with
      | some fs => some (.agg (T.und t) fs)
      | none => none
    | .arr n e => match zeroAV T k e with
      | some z => some (.agg (T.und t) (List.replicate n z))
      | none => none
    | _ => none
def zeroAVs (T : Tab) : Nat → List Ty → Option (List AV)
  | 0, _ => none
  | _ + 1, [] => some []
  | k + 1, t :: ts => match zeroAV T k t, zeroAVs T k ts with
    | some z, some zs => some (z :: zs)
    | _, _ => none
end
def zero (T : Tab) (t : Ty) : Option AV := zeroAV T 40 t
def aEq (T : Tab) (t : Ty) (x y : AV) : Option Bool :=
  match T.d t, x, y with
  | .bool, .bool a, .bool b => some (a == b)
  | .ptr _, .nilp, .nilp => some true
  | .ptr _, .nilp, .ref _ _ _ => some false
  | .ptr _, .ref _ _ _, .nilp => some false
  | .ptr _, .nilp, .vptr _ _ => some false
  | .ptr _, .vptr _ _, .nilp => some false
  | .slice _, .nils, .nils => some true
  | .slice _, .nils, .vsl _ _ _ => some false
  | .slice _, .vsl _ _ _, .nils => some false
  | .slice _, .nils, .msl _ _ _ _ _ => some false
  | .slice _, .msl _ _ _ _ _, .nils => some false
  | .func, .nilf, .nilf => some true
  | .func, .nilf, .fn _ _ => some false
  | .func, .fn _ _, .nilf => some false
  | .iface, .nili, .iface _ _ => some false
  | .iface, .iface _ _, .nili => some false
  | _, _, _ => none
def aBin (T : Tab) (op : BinOp) (t : Ty) (x y : AV) : Option AV :=
  match x, y with
  | .int k a, .int k' b => ofPure (Go.binOp op t (.int k a) (.int k' b))
  | .str a, .str b => ofPure (Go.binOp op t (.string a) (.string b))
  | x, y => match op with
    | .eql => (aEq T t x y).map .bool
    | .neq => (aEq T t x y).map fun b => .bool (!b)
    | _ => none
def aUn (op : UnOp) : AV → Option AV
  | .int k a => ofPure (Op.unary op (.int k a))
  | .bool b => ofPure (Op.unary op (.bool b))
  | _ => none
def bytesOf : List AV → Option (List UInt8)
  | [] => some []
  | .int .u8 n :: l => (bytesOf l).map (UInt8.ofNat n.toNat :: ·)
  | _ => none
def ofBytes (l : List UInt8) : List AV := l.map fun b => .int .u8 b.toNat
def aBound (n : Nat) : Option AV → Nat → Option Nat
  | none, dflt => some dflt
  | some (.int _ i), _ => if 0 ≤ i ∧ i ≤ n then some i.toNat else none
  | _, _ => none
def aBounds (n : Nat) (lo hi mx : Option AV) : Option (Nat × Nat) :=
  match aBound n mx n, mx.isSome && hi.isNone with
  | some m, false => match aBound m hi n with
    | some h => match aBound h lo 0 with
      | some l => some (l, h)
      | none => none
    | none => none
  | _, _ => none
def cutTok (n h : Nat) (mx : Option AV) (k : Tok) : Tok :=
  match mx with
  | some (.int _ m) => if m = h then .exact else .none
  | some _ => .none
  | none => if h = n then k else .none
def aSlice (T : Tab) (t : Ty) (x : AV) (lo hi mx : Option AV) : Option AV :=
  match T.d t, x with
  | .str, .str s => match mx, aBounds s.size lo hi none with
    | none, some (l, h) => some (.str (s.extract l h))
    | _, _ => none
  | .slice _, .nils => match aBounds 0 lo hi mx with
    | some _ => some .nils
    | none => none
  | .slice e0, .vsl e l k => if T.und e0 = e then
      match aBounds l.length lo hi mx with
      | some (a, h) => some (.vsl e ((l.take h).drop a) (cutTok l.length h mx k))
      | none => none
    else none
  | .slice e0, .msl r p e off len => if T.und e0 = e then
      match mx, aBounds len lo hi none with
      | none, some (a, h) => if a < h then some (.msl r p e (off + a) (h - a)) else some (.vsl e [] .none)
      | _, _ => none
    else none
  | .arr n e, .ref r p u => if u = T.und t then
      match mx, aBounds n lo hi none with
      | none, some (a, h) => if a < h then some (.msl r p (T.und e) a (h - a)) else some (.vsl (T.und e) [] .none)
      | _, _ => none
    else none
  | .arr n e, .vptr u (.agg _ l) => if u = T.und t then
      match mx, aBounds n lo hi none with
      | none, some (a, h) => some (.vsl (T.und e) ((l.take h).drop a) .none)
      | _, _ => none
    else none
  | _, _ => none
def aIndexAddr (T : Tab) (t : Ty) (x i : AV) : Option AV :=
  match T.d t, x, i with
  | .slice e0, .vsl e l _, .int _ n => if T.und e0 = e ∧ 0 ≤ n then (l[n.toNat]?).map (.vptr e) else none
  | .slice e0, .msl r p e off len, .int _ n => if T.und e0 = e ∧ 0 ≤ n ∧ n < len then some (.ref r (p ++ [off + n.toNat]) e) else none
  | .arr m e, .ref r p u, .int _ n => if u = T.und t ∧ 0 ≤ n ∧ n < m then some (.ref r (p ++ [n.toNat]) (T.und e)) else none
  | .arr m e, .vptr u (.agg _ fs), .int _ n => if u = T.und t ∧ 0 ≤ n ∧ n < m then (fs[n.toNat]?).map (.vptr (T.und e)) else none
  | _, _, _ => none
def aIndex (T : Tab) (t : Ty) (x i : AV) : Option AV :=
  match T.d t, x, i with
  | .str, .str s, .int _ n => if 0 ≤ n then (s[n.toNat]?).map fun b => .int .u8 b.toNat else none
  | .arr m _, .agg u fs, .int _ n => if u = T.und t ∧ 0 ≤ n ∧ n < m then fs[n.toNat]? else none
  | _, _, _ => none
def aFieldAddr (T : Tab) (t : Ty) (x : AV) (f : Nat) : Option AV :=
  match T.d t, x with
  | .struct ts, .ref r p u => if u = T.und t then (ts[f]?).bind fun ft => if T.size ft = 0 then none else some (.ref r (p ++ [f]) (T.und ft)) else none
  | .struct ts, .vptr u (.agg _ fs) => if u = T.und t then (ts[f]?).bind fun ft => if T.size ft = 0 then none else (fs[f]?).map (.vptr (T.und ft)) else none
  | _, _ => none
def aField (T : Tab) (t : Ty) (x : AV) (f : Nat) : Option AV :=
  match T.d t, x with
  | .struct _, .agg u fs => if u = T.und t then fs[f]? else none
  | _, _ => none
def aFill (T : Tab) (tyOf : Nat → Option Ty) (fs : List AV) : List (Nat × AV) → Option (List AV)
  | [] => some fs
  | (i, v) :: r => match tyOf i with
    | some t => if i < fs.length ∧ fits T t v = true then aFill T tyOf (fs.set i v) r else none
    | none => none
def aBuild (T : Tab) (t : Ty) (parts : List (Nat × AV)) : Option AV :=
  match T.d t, zero T t with
  | .struct ts, some (.agg u fs) => (aFill T (ts[·]?) fs parts).map (.agg u)
  | .arr _ e, some (.agg u fs) => (aFill T (fun _ => some e) fs parts).map (.agg u)
  | _, _ => none
def aElems (T : Tab) (t : Ty) (len : Nat) (parts : List (Nat × AV)) : Option (Ty × List AV) :=
  match T.d t with
  | .slice e => if len * T.size e ≤ 2 ^ 24 then
      match zero T e with
      | some z => (aFill T (fun _ => some e) (List.replicate len z) parts).map (T.und e, ·)
      | none => none
    else none
  | _ => none
def aZeros (T : Tab) (t : Ty) (len cap : AV) : Option (Ty × Nat × Nat × AV) :=
  match T.d t, len, cap with
  | .slice e, .int .i64 l, .int .i64 c => if 0 ≤ l ∧ l ≤ c ∧ c * T.bytes e ≤ 2 ^ 47 ∧ c < 2 ^ 62 then (zero T e).map fun z => (T.und e, l.toNat, c.toNat, z) else none
  | _, _, _ => none
def aLen (T : Tab) (t : Ty) (x : AV) : Option AV :=
  match T.d t, x with
  | .str, .str s => some (.int .i64 s.size)
  | .slice _, .nils => some (.int .i64 0)
  | .slice _, .vsl _ l _ => some (.int .i64 l.length)
  | .slice _, .msl _ _ _ _ len => some (.int .i64 len)
  | .arr n _, _ => some (.int .i64 n)
  | _, _ => none
def toV : AV → Option Value
  | .int k n => some (.int k n)
  | .str s => some (.string s)
  | _ => none
def toVs : List AV → Option (List Value)
  | [] => some []
  | x :: l => match toV x, toVs l with
    | some v, some vs => some (v :: vs)
    | _, _ => none
inductive K where
  | pure
  | read
  | eff
  deriving DecidableEq
def opKind (C : Cfg) (f : FuncId) (o : Oper) : K :=
  match o.op with
  | .move _ | .assign _ | .pick .. | .build .. | .binOp .. | .unOp .. | .nilCheck _ | .fieldAddr .. | .field .. | .indexAddr .. | .index .. | .extract .. | .slice .. | .makeFunc .. | .makeInterface .. => .pure
  | .load .. | .convert .. => .read
  | .buildSlice .. => match o.dst with
    | some d => if C.ann f d = .mut then .eff else .pure
    | none => .pure
  | .makeSlice .. => match o.dst with
    | some d => if C.ann f d = .freeze then .pure else .eff
    | none => .eff
  | .call c => match c.callee with
    | .builtin .len | .builtin .min | .builtin .max => .pure
    | _ => .eff
  | _ => .eff
def isC : Operand → Bool
  | .const _ => true
  | _ => false
def exPure (T : Tab) (ρ : Operand → AV) (o : Oper) : Option AV :=
  match o.op with
  | .move x | .assign x => some (ρ x)
  | .pick c a b => match ρ c with
    | .bool true => some (ρ a)
    | .bool false => some (ρ b)
    | _ => none
  | .build t ps => aBuild T t (ps.toList.map fun x => (x.1, ρ x.2))
  | .binOp op t x y _ => match ρ x, ρ y with
    | .nili, .nili => if T.d t = .iface ∧ (isC x || isC y) = true then
        match op with
        | .eql => some (.bool true)
        | .neq => some (.bool false)
        | _ => none
      else none
    | a, b => aBin T op t a b
  | .unOp op _ x => aUn op (ρ x)
  | .nilCheck x => match ρ x with
    | .ref r p t => some (.ref r p t)
    | .vptr t v => some (.vptr t v)
    | _ => none
  | .fieldAddr t x f => aFieldAddr T t (ρ x) f
  | .field t x f => aField T t (ρ x) f
  | .indexAddr t x i => aIndexAddr T t (ρ x) (ρ i)
  | .index t x i => aIndex T t (ρ x) (ρ i)
  | .extract x i => match ρ x with
    | .tuple vs => vs[i]?
    | _ => none
  | .slice t x lo hi mx => aSlice T t (ρ x) (lo.map ρ) (hi.map ρ) (mx.map ρ)
  | .buildSlice t len ps => (aElems T t len (ps.toList.map fun x => (x.1, ρ x.2))).map fun x => .vsl x.1 x.2 .exact
  | .makeSlice t l c => (aZeros T t (ρ l) (ρ c)).map fun x => .vsl x.1 (List.replicate x.2.1 x.2.2.2) .none
  | .call c => match c.callee, c.args.toList, c.argTypes.toList with
    | .builtin .len, [x], [t] => aLen T t (ρ x)
    | .builtin .min, xs, _ => match toVs (xs.map ρ) with
      | some vs => ofPure (Builtin.min_ #[] 0 vs.toArray)
      | none => none
    | .builtin .max, xs, _ => match toVs (xs.map ρ) with
      | some vs => ofPure (Builtin.max_ #[] 0 vs.toArray)
      | none => none
    | _, _, _ => none
  | _ => none
def slElems (h : Heap) : AV → Option (List AV)
  | .nils => some []
  | .vsl _ l _ => some l
  | .msl r p _ off len => match (h[r]?).bind (rowGet · p) with
    | some l => if off + len ≤ l.length then some ((l.drop off).take len) else none
    | none => none
  | _ => none
def exRead (T : Tab) (ρ : Operand → AV) (o : Oper) (h : Heap) : Option AV :=
  match o.op with
  | .load t x => match ρ x with
    | .ref r p u => if u = T.und t then (h[r]?).bind (objGet · p) else none
    | .vptr u v => if u = T.und t then some v else none
    | _ => none
  | .convert s t x => match T.d s, T.d t, ρ x with
    | .int _, .int k, .int _ n => some (.int k (k.wrap n))
    | .str, .str, .str b => some (.str b)
    | .str, .slice e, .str b => if T.d e = .int .u8 then some (.vsl (T.und e) (ofBytes b.data.toList) .none) else none
    | .slice e, .str, x => if T.d e = .int .u8 then
        match (slElems h x).bind bytesOf with
        | some l => some (.str ⟨l.toArray⟩)
        | none => none
      else none
    | .slice _, .slice e0, .msl r [] e off len => match h[r]? with
      | some (.row e' _) => if s = t ∧ T.d e0 = .int .u8 ∧ T.und e0 = e ∧ e' = e then some (.msl r [] e off len) else none
      | _ => none
    | _, _, _ => none
  | _ => none
def aAppend (T : Tab) (e : Ty) (mu : Bool) (s : AV) (new : List AV) (h : Heap) : Option (AV × Heap) :=
  match new with
  | [] => match s with
    | .nils => some (s, h)
    | .vsl .. => some (s, h)
    | _ => none
  | _ :: _ => match s with
    | .nils => if new.length * T.bytes e ≤ 2 ^ 47 ∧ new.length < 2 ^ 61 ∧ (zero T e).isSome = true then
        (if mu then some (.msl h.length [] (T.und e) 0 new.length, h ++ [.row (T.und e) new])
         else some (.vsl (T.und e) new (.own h.length 0), h ++ [.tok 0]))
      else none
    | .vsl e' l k => if e' = T.und e ∧ (l.length + new.length) * T.bytes e ≤ 2 ^ 47 ∧ l.length + new.length < 2 ^ 61 ∧ 0 < T.size e ∧ (zero T e).isSome = true then
        match k with
        | .exact => if mu then some (.msl h.length [] e' 0 (l.length + new.length), h ++ [.row e' (l ++ new)])
          else some (.vsl e' (l ++ new) (.own h.length 0), h ++ [.tok 0])
        | .own r g => match h[r]?, mu with
          | some (.tok g'), false => if g' = g then some (.vsl e' (l ++ new) (.own r (g + 1)), h.set r (.tok (g + 1))) else none
          | _, _ => none
        | .none => none
      else none
    | .msl r [] e' 0 len => match h[r]? with
      | some (.row e'' l) => if (e'' = T.und e ∧ e' = T.und e ∧ l.length = len) ∧ (len + new.length) * T.bytes e ≤ 2 ^ 47 ∧ len + new.length < 2 ^ 61 ∧ 0 < T.size e ∧ (zero T e).isSome = true then
          some (.msl h.length [] e' 0 (len + new.length), h.set r .dead ++ [.row e' (l ++ new)])
        else none
      | _ => none
    | _ => none
def aCopy (h : Heap) (d : AV) (src : List AV) : Option (AV × Heap) :=
  match d with
  | .nils => some (.int .i64 0, h)
  | .msl r p _ off len => match h[r]? with
    | some ob => match rowGet ob p with
      | some l => if off + len ≤ l.length then
          (let n := min src.length len
           match rowSet (l.take off ++ (src.take n ++ l.drop (off + n))) ob p with
           | some ob' => some (.int .i64 n, h.set r ob')
           | none => none)
        else none
      | none => none
    | none => none
  | _ => none
def srcElems (T : Tab) (e : Ty) (h : Heap) : AV → Option (List AV)
  | .str b => if T.d e = .int .u8 then some (ofBytes b.data.toList) else none
  | .vsl e' l _ => if e' = T.und e then some l else none
  | .msl r p e' off len => if e' = T.und e then slElems h (.msl r p e' off len) else none
  | .nils => some []
  | _ => none
def annOf (C : Cfg) (f : FuncId) (o : Oper) : Ann := match o.dst with
  | some d => C.ann f d
  | none => .plain
abbrev CallF := Bool → FuncId → List AV → Heap → Option (AV × Heap)
def exEff (C : Cfg) (call : CallF) (mode : Bool) (f : FuncId) (ρ : Operand → AV) (o : Oper) (h : Heap) : Option (AV × Heap) :=
  match o.op with
  | .alloc t => (zero C.T t).map fun z => (.ref h.length [] (C.T.und t), h ++ [.var t z])
  | .box t x => if fits C.T t (ρ x) = true then some (.ref h.length [] (C.T.und t), h ++ [.var t (ρ x)]) else none
  | .store t a x => match ρ a with
    | .ref r p u => if u = C.T.und t ∧ fits C.T t (ρ x) = true then
        match (h[r]?).bind (objSet (ρ x) · p) with
        | some ob => some (.undef, h.set r ob)
        | none => none
      else none
    | _ => none
  | .makeSlice t l c => (aZeros C.T t (ρ l) (ρ c)).map fun x =>
      if x.2.1 = 0 then (.vsl x.1 [] .none, h) else (.msl h.length [] x.1 0 x.2.1, h ++ [.row x.1 (List.replicate x.2.2.1 x.2.2.2)])
  | .buildSlice t len ps => match aElems C.T t len (ps.toList.map fun x => (x.1, ρ x.2)) with
    | some (e, l) => if 0 < l.length then some (.msl h.length [] e 0 l.length, h ++ [.row e l]) else none
    | none => none
  | .call c => match c.callee, c.args.toList, c.argTypes.toList with
    | .builtin .append, [s, x], [t, u] => match C.T.d t, C.T.d u with
      | .slice e, .slice _ => match srcElems C.T e h (ρ x) with
        | some new => aAppend C.T e (annOf C f o = .mut || mode) (ρ s) new h
        | none => none
      | .slice e, .str => match srcElems C.T e h (ρ x) with
        | some new => aAppend C.T e (annOf C f o = .mut || mode) (ρ s) new h
        | none => none
      | _, _ => none
    | .builtin .copy, [d, x], [t, _] => match C.T.d t with
      | .slice e => match ρ d with
        | .msl r p e' off len => if e' = C.T.und e then
            match srcElems C.T e h (ρ x) with
            | some src => aCopy h (.msl r p e' off len) src
            | none => none
          else none
        | .vsl e' [] _ => if e' = C.T.und e then
            match srcElems C.T e h (ρ x) with
            | some _ => some (.int .i64 0, h)
            | none => none
          else none
        | _ => none
      | _ => none
    | .value x, args, _ => match ρ x with
      | .fn (.func g) cs => call (annOf C f o = .flip || mode) g (args.map ρ ++ cs) h
      | _ => none
    | _, _, _ => none
  | _ => none
def exBase (C : Cfg) (call : CallF) (mode : Bool) (f : FuncId) (ρ : Operand → AV) (o : Oper) (h : Heap) : Option (AV × Heap) :=
  match opKind C f o with
  | .pure => match exPure C.T ρ o with
    | some v => some (v, h)
    | none => none
  | .read => match exRead C.T ρ o h with
    | some v => some (v, h)
    | none => none
  | .eff => exEff C call mode f ρ o h
def freezeA (v : AV) (h : Heap) : Option (AV × Heap) :=
  match v with
  | .msl r [] e off len => match h[r]? with
    | some (.row e' l) => if e' = e ∧ off + len ≤ l.length then some (.vsl e ((l.drop off).take len) .none, h.set r .dead) else none
    | _ => none
  | v => some (v, h)
def isFrz (C : Cfg) (f : FuncId) (o : Oper) : Bool :=
  annOf C f o == .freeze && !(o.op matches .makeSlice ..)
def exOp (C : Cfg) (call : CallF) (mode : Bool) (f : FuncId) (ρ : Operand → AV) (o : Oper) (h : Heap) : Option (AV × Heap) :=
  match exBase C call mode f ρ o h with
  | some (v, h') => if isFrz C f o then freezeA v h' else some (v, h')
  | none => none
def kindOf (C : Cfg) (f : FuncId) (o : Oper) : K := if isFrz C f o then .eff else opKind C f o
end Go.Ax

namespace Go.Ax
open Go
mutual
/-- The cells of a type's zero value. -/
def zeroCs (T : Tab) : Nat → Ty → Option (List Value)
  | 0, _ => none
  | k + 1, t => match T.d t with
    | .int kd => some [.int kd 0]
    | .bool => some [.bool false]
    | .str => some [.string .empty]
    | .ptr _ => some [.pointer none]
    | .slice _ => some [.slice none 0 0]
    | .map _ _ => some [.map none]
    | .func => some [.nilFunc]
    | .iface => some [.nilIface]
    | .struct ts => zeroCss T k ts
    | .arr n e => match zeroCs T k e with
      | some z => some (List.replicate n z).flatten
      | none => none
    | _ => none
def zeroCss (T : Tab) : Nat → List Ty → Option (List Value)
  | 0, _ => none
  | _ + 1, [] => some []
  | k + 1, t :: ts => match zeroCs T k t, zeroCss T k ts with
    | some z, some zs => some (z ++ zs)
    | _, _ => none
end
def sameCell : Value → Value → Bool
  | .int k n, .int k' n' => k == k' && n == n'
  | .bool a, .bool b => a == b
  | .string a, .string b => a.data.toList == b.data.toList
  | .pointer none, .pointer none => true
  | .slice none 0 0, .slice none 0 0 => true
  | .map none, .map none => true
  | .nilFunc, .nilFunc => true
  | .nilIface, .nilIface => true
  | _, _ => false
theorem sameCell_eq {a b : Value} (h : sameCell a b = true) : a = b := by
  unfold sameCell at h
  split at h <;> simp_all
  · rename_i x y
    cases x with | mk a => cases y with | mk b => simp_all
def sameCells : List Value → List Value → Bool
  | [], [] => true
  | a :: l, b :: r => sameCell a b && sameCells l r
  | _, _ => false
theorem sameCells_eq : ∀ {a b : List Value}, sameCells a b = true → a = b
  | [], [], _ => rfl
  | a :: l, b :: r, h => by
    simp only [sameCells, Bool.and_eq_true] at h
    rw [sameCell_eq h.1, sameCells_eq h.2]
  | [], _ :: _, h => by simp [sameCells] at h
  | _ :: _, [], h => by simp [sameCells] at h
def DescOk (P : Program) (T : Tab) (t : Ty) : Prop :=
  match T.d t with
  | .int k => P.underlying t = some (.int k)
  | .bool => P.underlying t = some .bool
  | .str => P.underlying t = some .string
  | .ptr e => P.underlying t = some (.pointer e)
  | .slice e => P.underlying t = some (.slice e)
  | .map k v => P.underlying t = some (.map k v)
  | .struct ts => ∃ fs : Array Field, P.underlying t = some (.struct fs) ∧ fs.toList.map (·.type) = ts ∧ ∀ i f, fs[i]? = some f → f.offset = T.sizes (ts.take i)
  | .arr n e => P.underlying t = some (.array n e)
  | .func => ∃ a b c, P.underlying t = some (.func a b c)
  | .iface => ∃ ms, P.underlying t = some (.interface ms)
  | .tuple => ∃ ts, P.underlying t = some (.tuple ts)
  | .other => True
structure Fits (P : Program) (T : Tab) : Prop where
  ok : T.Ok
  desc : ∀ t, DescOk P T t
  size : ∀ t, T.d t ≠ .other → (P.info? t).map (·.size) = some (T.size t)
  bytes : ∀ t, T.d t ≠ .other → (P.info? t).map (·.bytes) = some (T.bytes t)
  zero : ∀ t cs, zeroCs T 40 t = some cs → ∃ i z, P.info? t = some i ∧ i.zero = some z ∧ z.cells.toList = cs
def offsetsOk (T : Tab) : Nat → List Field → List Ty → Bool
  | _, [], [] => true
  | o, f :: fs, t :: ts => f.type == t && f.offset == o && offsetsOk T (o + T.size t) fs ts
  | _, _, _ => false
def descChk (P : Program) (T : Tab) (t : Ty) : Bool :=
  match T.d t, P.underlying t with
  | .int k, some (.int k') => k == k'
  | .bool, some .bool => true
  | .str, some .string => true
  | .ptr e, some (.pointer e') => e == e'
  | .slice e, some (.slice e') => e == e'
  | .map k v, some (.map k' v') => k == k' && v == v'
  | .struct ts, some (.struct fs) => offsetsOk T 0 fs.toList ts
  | .arr n e, some (.array n' e') => n == n' && e == e'
  | .func, some (.func _ _ _) => true
  | .iface, some (.interface _) => true
  | .tuple, some (.tuple _) => true
  | .other, _ => true
  | _, _ => false
def tyChk (P : Program) (T : Tab) (t : Ty) : Bool :=
  descChk P T t && T.d (T.und t) == T.d t && T.size (T.und t) == T.size t && T.bytes (T.und t) == T.bytes t && T.und (T.und t) == T.und t &&
  (match T.d t with
    | .struct ts => T.size t == T.sizes ts && ts.all fun f => T.d f != .other
    | .arr n e => T.size t == n * T.size e && T.d e != .other
    | .tuple => true
    | .other => true
    | .slice e => T.size t == 1 && T.d e != .other
    | _ => T.size t == 1) &&
  (match T.d t with
    | .other => true
    | _ => match P.info? t with
      | some i => i.size == T.size t && i.bytes == T.bytes t && (match zeroCs T 40 t, i.zero with
        | some cs, some z => sameCells z.cells.toList cs
        | none, _ => true
        | _, _ => false)
      | none => false)
theorem offsetsOk_spec {T : Tab} : ∀ {o : Nat} {fs : List Field} {ts : List Ty}, offsetsOk T o fs ts = true →
    fs.map (·.type) = ts ∧ ∀ i f, fs[i]? = some f → f.offset = o + T.sizes (ts.take i)
  | _, [], [], _ => ⟨rfl, fun i f h => by simp at h⟩
  | o, f :: fs, t :: ts, h => by
    simp only [offsetsOk, Bool.and_eq_true, beq_iff_eq] at h
    have ih := offsetsOk_spec h.2
    refine ⟨by simp [h.1.1, ih.1], fun i g hg => ?_⟩
    cases i with
    | zero => simp at hg; subst hg; simp [h.1.2, Tab.sizes]
    | succ i =>
      have := ih.2 i g (by simpa using hg)
      simp only [List.take_succ_cons, Tab.sizes, List.map_cons, List.sum_cons] at this ⊢
      omega
  | _, [], _ :: _, h => by simp [offsetsOk] at h
  | _, _ :: _, [], h => by simp [offsetsOk] at h
theorem descOk_of_chk {P : Program} {T : Tab} {t : Ty} (h : descChk P T t = true) : DescOk P T t := by
  unfold DescOk
  cases hd : T.d t with
  | struct ts =>
    simp only [descChk, hd] at h ⊢
    split at h <;> try (cases h; done)
    all_goals simp_all
    exact ⟨(offsetsOk_spec h).1, fun i f hf => by simpa using (offsetsOk_spec h).2 i f (by simpa using hf)⟩
  | other => trivial
  | _ =>
    simp only [descChk, hd] at h ⊢
    split at h <;> first | (cases h; done) | simp_all
theorem tab_out {T : Tab} {t : Ty} (h : T.length ≤ t) : T[t]? = none := List.getElem?_eq_none h
theorem fits_of_chk {P : Program} {T : Tab} (h : (List.range T.length).all (tyChk P T) = true) : Fits P T := by
  have hc : ∀ t, t < T.length → tyChk P T t = true := fun t ht => List.all_eq_true.1 h t (List.mem_range.2 ht)
  have hout : ∀ t, ¬ t < T.length → T.d t = .other ∧ T.und t = t ∧ T.size t = 0 ∧ T.bytes t = 0 := fun t ht => by
    have := tab_out (T := T) (t := t) (by omega)
    simp [Tab.d, Tab.und, Tab.size, Tab.bytes, this]
  have key : ∀ t, (descChk P T t = true ∧ T.d (T.und t) = T.d t ∧ T.size (T.und t) = T.size t ∧ T.bytes (T.und t) = T.bytes t ∧ T.und (T.und t) = T.und t) ∧
      (match T.d t with
        | .struct ts => T.size t = T.sizes ts ∧ ∀ f ∈ ts, T.d f ≠ .other
        | .arr n e => T.size t = n * T.size e ∧ T.d e ≠ .other
        | .tuple => True
        | .other => True
        | .slice e => T.size t = 1 ∧ T.d e ≠ .other
        | _ => T.size t = 1) ∧
      (T.d t ≠ .other → ∃ i, P.info? t = some i ∧ i.size = T.size t ∧ i.bytes = T.bytes t ∧ ∀ cs, zeroCs T 40 t = some cs → ∃ z, i.zero = some z ∧ z.cells.toList = cs) := by
    intro t
    by_cases ht : t < T.length
    · have h1 := hc t ht
      unfold tyChk at h1
      simp only [Bool.and_eq_true, beq_iff_eq] at h1
      obtain ⟨⟨⟨⟨⟨⟨a, b⟩, c⟩, d⟩, e⟩, f⟩, g⟩ := h1
      refine ⟨⟨a, b, c, d, e⟩, ?_, fun hd => ?_⟩
      · revert f; cases T.d t <;> simp
      · revert g
        cases hdd : T.d t with
        | other => exact absurd hdd hd
        | _ =>
          simp only
          cases hi : P.info? t with
          | none => simp
          | some i =>
            simp only [Bool.and_eq_true, beq_iff_eq, Option.some.injEq]
            intro g
            refine ⟨i, rfl, g.1.1, g.1.2, fun cs hcs => ?_⟩
            have g2 := g.2
            simp only [hcs] at g2
            cases hz : i.zero with
            | none => simp [hz] at g2
            | some z => simp only [hz] at g2; exact ⟨z, rfl, sameCells_eq g2⟩
    · have h1 := hout t ht
      refine ⟨⟨by simp [descChk, h1.1], by rw [h1.2.1], by rw [h1.2.1], by rw [h1.2.1], by rw [h1.2.1]; exact h1.2.1⟩, by rw [h1.1]; trivial, fun hd => absurd h1.1 hd⟩
  refine ⟨⟨fun t ht => ?_, fun t ts hd => ?_, fun t n e hd => ?_, fun t => (key t).1.2.1, fun t => (key t).1.2.2.1, fun t => (key t).1.2.2.2.1, fun t => (key t).1.2.2.2.2, fun t e hd => ?_, fun t n e hd => ?_, fun t ts hd => ?_⟩, fun t => ?_, fun t hd => ?_, fun t hd => ?_, fun t cs hcs => ?_⟩
  · have := (key t).2.1
    unfold Tab.cell at ht
    cases hd : T.d t <;> simp_all [D.cell]
  · have := (key t).2.1
    rw [hd] at this; exact this.1
  · have := (key t).2.1
    rw [hd] at this; exact this.1
  · have := (key t).2.1
    rw [hd] at this; exact this.2
  · have := (key t).2.1
    rw [hd] at this; exact this.2
  · have := (key t).2.1
    rw [hd] at this; exact this.2
  · exact descOk_of_chk (key t).1.1
  · obtain ⟨i, h1, h2, h3, h4⟩ := (key t).2.2 hd
    simp [h1, h2]
  · obtain ⟨i, h1, h2, h3, h4⟩ := (key t).2.2 hd
    simp [h1, h3]
  · have hd : T.d t ≠ .other := fun hd => by simp [zeroCs, hd] at hcs
    obtain ⟨i, h1, h2, h3, h4⟩ := (key t).2.2 hd
    obtain ⟨z, h5, h6⟩ := h4 cs hcs
    exact ⟨i, z, h1, h5, h6⟩
end Go.Ax

namespace Go.Ax
open Go
def tab : Tab := [
  ⟨0, .tuple, 1, 0⟩,
  ⟨1, .func, 1, 8⟩,
  ⟨2, .int .i64, 1, 8⟩,
  ⟨3, .int .i64, 1, 8⟩,
  ⟨4, .bool, 1, 1⟩,
  ⟨5, .int .u8, 1, 1⟩,
  ⟨5, .int .u8, 1, 1⟩,
  ⟨7, .struct [2, 3, 4, 6], 4, 24⟩,
  ⟨7, .struct [2, 3, 4, 6], 4, 24⟩,
  ⟨9, .str, 1, 16⟩,
  ⟨9, .str, 1, 16⟩,
  ⟨9, .str, 1, 16⟩,
  ⟨12, .int .u64, 1, 8⟩,
  ⟨13, .struct [9, 12], 2, 24⟩,
  ⟨13, .struct [9, 12], 2, 24⟩,
  ⟨15, .ptr 121, 1, 8⟩,
  ⟨16, .ptr 124, 1, 8⟩,
  ⟨17, .ptr 132, 1, 8⟩,
  ⟨18, .struct [17], 1, 8⟩,
  ⟨18, .struct [17], 1, 8⟩,
  ⟨20, .iface, 1, 16⟩,
  ⟨21, .int .i32, 1, 4⟩,
  ⟨22, .slice 5, 1, 24⟩,
  ⟨23, .int .u16, 1, 2⟩,
  ⟨24, .func, 1, 8⟩,
  ⟨25, .ptr 84, 1, 8⟩,
  ⟨26, .func, 1, 8⟩,
  ⟨3, .int .i64, 1, 8⟩,
  ⟨28, .tuple, 1, 0⟩,
  ⟨29, .func, 1, 8⟩,
  ⟨30, .slice 22, 1, 24⟩,
  ⟨31, .tuple, 1, 0⟩,
  ⟨32, .func, 1, 8⟩,
  ⟨33, .func, 1, 8⟩,
  ⟨34, .func, 1, 8⟩,
  ⟨35, .func, 1, 8⟩,
  ⟨36, .func, 1, 8⟩,
  ⟨37, .func, 1, 8⟩,
  ⟨38, .tuple, 1, 0⟩,
  ⟨39, .func, 1, 8⟩,
  ⟨40, .func, 1, 8⟩,
  ⟨41, .func, 1, 8⟩,
  ⟨42, .func, 1, 8⟩,
  ⟨43, .func, 1, 8⟩,
  ⟨44, .int .u64, 1, 8⟩,
  ⟨45, .func, 1, 8⟩,
  ⟨46, .func, 1, 8⟩,
  ⟨47, .func, 1, 8⟩,
  ⟨48, .slice 96, 1, 24⟩,
  ⟨49, .func, 1, 8⟩,
  ⟨50, .ptr 74, 1, 8⟩,
  ⟨51, .tuple, 1, 0⟩,
  ⟨52, .func, 1, 8⟩,
  ⟨53, .func, 1, 8⟩,
  ⟨54, .func, 1, 8⟩,
  ⟨55, .func, 1, 8⟩,
  ⟨56, .func, 1, 8⟩,
  ⟨57, .ptr 104, 1, 8⟩,
  ⟨58, .tuple, 1, 0⟩,
  ⟨59, .func, 1, 8⟩,
  ⟨60, .func, 1, 8⟩,
  ⟨61, .func, 1, 8⟩,
  ⟨62, .func, 1, 8⟩,
  ⟨63, .func, 1, 8⟩,
  ⟨64, .func, 1, 8⟩,
  ⟨65, .slice 71, 1, 24⟩,
  ⟨66, .func, 1, 8⟩,
  ⟨67, .ptr 76, 1, 8⟩,
  ⟨68, .tuple, 1, 0⟩,
  ⟨69, .func, 1, 8⟩,
  ⟨70, .struct [3, 3, 3, 22, 44], 5, 56⟩,
  ⟨70, .struct [3, 3, 3, 22, 44], 5, 56⟩,
  ⟨72, .slice 112, 1, 24⟩,
  ⟨73, .struct [30, 72, 3, 4], 4, 64⟩,
  ⟨73, .struct [30, 72, 3, 4], 4, 64⟩,
  ⟨75, .struct [50, 3, 3, 4], 4, 32⟩,
  ⟨75, .struct [50, 3, 3, 4], 4, 32⟩,
  ⟨77, .func, 1, 8⟩,
  ⟨78, .int .u64, 1, 8⟩,
  ⟨79, .func, 1, 8⟩,
  ⟨80, .func, 1, 8⟩,
  ⟨81, .slice 89, 1, 24⟩,
  ⟨82, .slice 91, 1, 24⟩,
  ⟨83, .struct [81, 82, 3, 4], 4, 64⟩,
  ⟨83, .struct [81, 82, 3, 4], 4, 64⟩,
  ⟨85, .func, 1, 8⟩,
  ⟨86, .tuple, 1, 0⟩,
  ⟨87, .func, 1, 8⟩,
  ⟨88, .arr 64 5, 64, 64⟩,
  ⟨88, .arr 64 5, 64, 64⟩,
  ⟨90, .struct [3, 89], 65, 72⟩,
  ⟨90, .struct [3, 89], 65, 72⟩,
  ⟨92, .func, 1, 8⟩,
  ⟨93, .slice 3, 1, 24⟩,
  ⟨94, .func, 1, 8⟩,
  ⟨95, .struct [3, 3, 3, 22, 44], 5, 56⟩,
  ⟨95, .struct [3, 3, 3, 22, 44], 5, 56⟩,
  ⟨97, .func, 1, 8⟩,
  ⟨98, .func, 1, 8⟩,
  ⟨99, .func, 1, 8⟩,
  ⟨100, .func, 1, 8⟩,
  ⟨101, .tuple, 1, 0⟩,
  ⟨102, .func, 1, 8⟩,
  ⟨103, .struct [25, 3, 3, 4], 4, 32⟩,
  ⟨103, .struct [25, 3, 3, 4], 4, 32⟩,
  ⟨105, .int .u32, 1, 4⟩,
  ⟨106, .func, 1, 8⟩,
  ⟨107, .func, 1, 8⟩,
  ⟨108, .func, 1, 8⟩,
  ⟨109, .func, 1, 8⟩,
  ⟨110, .func, 1, 8⟩,
  ⟨111, .struct [3, 22], 2, 32⟩,
  ⟨111, .struct [3, 22], 2, 32⟩,
  ⟨113, .func, 1, 8⟩,
  ⟨114, .func, 1, 8⟩,
  ⟨115, .func, 1, 8⟩,
  ⟨116, .func, 1, 8⟩,
  ⟨117, .tuple, 1, 0⟩,
  ⟨118, .func, 1, 8⟩,
  ⟨119, .func, 1, 8⟩,
  ⟨120, .struct [17, 17, 17, 9], 4, 40⟩,
  ⟨120, .struct [17, 17, 17, 9], 4, 40⟩,
  ⟨122, .arr 0 16, 0, 0⟩,
  ⟨123, .struct [122], 0, 0⟩,
  ⟨123, .struct [122], 0, 0⟩,
  ⟨5, .int .u8, 1, 1⟩,
  ⟨5, .int .u8, 1, 1⟩,
  ⟨127, .func, 1, 8⟩,
  ⟨128, .ptr 5, 1, 8⟩,
  ⟨21, .int .i32, 1, 4⟩,
  ⟨21, .int .i32, 1, 4⟩,
  ⟨131, .struct [12, 12, 105, 125, 5, 5, 126, 127, 128, 129, 130], 11, 48⟩,
  ⟨131, .struct [12, 12, 105, 125, 5, 5, 126, 127, 128, 129, 130], 11, 48⟩,
  ⟨133, .other, 1, 8⟩]
theorem tab_chk : (List.range tab.length).all (tyChk Go.Proofs.Try.prog tab) = true := by kernel_rfl
theorem tab_fits : Fits Go.Proofs.Try.prog tab := fits_of_chk tab_chk
end Go.Ax

namespace Go.Ax
open Go Go.RowKit
section
variable {P : Program} {T : Tab} {J : Inj}
theorem run_size (F : Fits P T) {t : Ty} (hd : T.d t ≠ .other) (w : World) : (sizeOf t).run P w = .ok (T.size t) w := by
  have h := F.size t hd
  cases hi : P.info? t with
  | none => simp [hi] at h
  | some i =>
    simp only [hi, Option.map_some, Option.some.injEq] at h
    simp [sizeOf, typeInfo, hi, h]
theorem run_info (F : Fits P T) {t : Ty} (hd : T.d t ≠ .other) (w : World) : ∃ i, (typeInfo t).run P w = .ok i w ∧ i.size = T.size t ∧ i.bytes = T.bytes t := by
  have h := F.size t hd
  have h2 := F.bytes t hd
  cases hi : P.info? t with
  | none => simp [hi] at h
  | some i =>
    simp only [hi, Option.map_some, Option.some.injEq] at h h2
    exact ⟨i, by simp [typeInfo, hi], h, h2⟩
theorem Fits.und_int (F : Fits P T) {t : Ty} {k} (h : T.d t = .int k) : P.underlying t = some (.int k) := by have := F.desc t; simpa [DescOk, h] using this
theorem Fits.und_bool (F : Fits P T) {t : Ty} (h : T.d t = .bool) : P.underlying t = some .bool := by have := F.desc t; simpa [DescOk, h] using this
theorem Fits.und_str (F : Fits P T) {t : Ty} (h : T.d t = .str) : P.underlying t = some .string := by have := F.desc t; simpa [DescOk, h] using this
theorem Fits.und_ptr (F : Fits P T) {t : Ty} {e} (h : T.d t = .ptr e) : P.underlying t = some (.pointer e) := by have := F.desc t; simpa [DescOk, h] using this
theorem Fits.und_slice (F : Fits P T) {t : Ty} {e} (h : T.d t = .slice e) : P.underlying t = some (.slice e) := by have := F.desc t; simpa [DescOk, h] using this
theorem Fits.und_arr (F : Fits P T) {t : Ty} {n e} (h : T.d t = .arr n e) : P.underlying t = some (.array n e) := by have := F.desc t; simpa [DescOk, h] using this
theorem Fits.und_func (F : Fits P T) {t : Ty} (h : T.d t = .func) : ∃ a b c, P.underlying t = some (.func a b c) := by have := F.desc t; simpa [DescOk, h] using this
theorem Fits.und_iface (F : Fits P T) {t : Ty} (h : T.d t = .iface) : ∃ ms, P.underlying t = some (.interface ms) := by have := F.desc t; simpa [DescOk, h] using this
theorem Fits.und_struct (F : Fits P T) {t : Ty} {ts} (h : T.d t = .struct ts) : ∃ fs : Array Field, P.underlying t = some (.struct fs) ∧ fs.toList.map (·.type) = ts ∧ ∀ i f, fs[i]? = some f → f.offset = T.sizes (ts.take i) := by
  have := F.desc t; simpa only [DescOk, h] using this
theorem cell_ne {t : Ty} (h : T.cell t = true) : T.d t ≠ .other := fun e => by simp [Tab.cell, e, D.cell] at h
theorem run_isAgg_cell (F : Fits P T) {t : Ty} (h : T.cell t = true) (w : World) : (isAgg t).run P w = .ok false w := by
  have hf := F.desc t
  unfold Tab.cell at h
  unfold isAgg
  cases hd : T.d t <;> simp only [hd, D.cell] at h <;> simp only [DescOk, hd] at hf
  case func => obtain ⟨_, _, _, h1⟩ := hf; simp [run_underlying h1]
  case iface => obtain ⟨_, h1⟩ := hf; simp [run_underlying h1]
  case struct => cases h
  case arr => cases h
  case tuple => cases h
  case other => cases h
  all_goals simp [run_underlying hf]
theorem liftC_VR (v : Value) : VR T J (liftC v) v := by
  unfold liftC
  split
  · exact .cell (.int _ _)
  · exact .cell (.bool _)
  · exact .cell (.str _)
  · exact .cell .nilp
  · exact .cell .nils
  · exact .cell .nilf
  · exact .cell .nilm
  · exact .cell .nili
  · exact .undef
theorem evalA_VR {tm : List AV} {a : Act} (h : VRL T J tm a.tmps.toList) (x : Operand) : VR T J (evalA tm x) (a.eval x) := by
  cases x with
  | tmp t =>
    have := h.get t
    simpa [evalA, Act.eval, List.getD_eq_getElem?_getD, Array.getD_eq_getD_getElem?] using this
  | const v => exact liftC_VR v
  | global g => exact .undef
  | func f => exact .cell (.fn .nil)
theorem fits_fl (hT : T.Ok) {t : Ty} {v : AV} {x : Value} (hf : fits T t v = true) (h : VR T J v x) : ∃ cs, Fl T J t v cs ∧ x.cells = cs.toArray := by
  cases h with
  | undef => simp [fits] at hf
  | skip => simp [fits] at hf
  | tuple a => simp [fits] at hf
  | @agg u fs cs a =>
    refine ⟨cs, ?_, rfl⟩
    have hu : T.und t = u := by simpa [fits] using hf
    refine a.conv hT ?_
    rw [hu, ← hu, hT.undUnd]
  | @cell _ c a =>
    refine ⟨[x], ?_, ?_⟩
    · refine .cell ?_ a
      cases a <;> simp_all [fits]
    · cases a <;> first | rfl | (rename_i h1; cases x <;> simp_all [Value.cells, Value.oneCell'])
theorem Fl.toVR (hT : T.Ok) {t : Ty} {v : AV} {cs : List Value} (h : Fl T J t v cs) :
    (T.cell t = true ∧ ∃ c, cs = [c] ∧ Cell T J v c) ∨ (T.cell t = false ∧ VR T J v (.agg cs.toArray)) := by
  cases h with
  | cell a b => exact .inl ⟨a, _, rfl, b⟩
  | struct a b c =>
    refine .inr ⟨by simp [Tab.cell, a, D.cell], ?_⟩
    subst b
    exact .agg ((Fl.struct a rfl c).und hT)
  | arr a b c d =>
    refine .inr ⟨by simp [Tab.cell, a, D.cell], ?_⟩
    subst b
    exact .agg ((Fl.arr a rfl c d).und hT)
theorem Fl.ne_other {t : Ty} {v : AV} {cs : List Value} (h : Fl T J t v cs) : T.d t ≠ .other := by
  cases h with
  | cell a b => exact cell_ne a
  | struct a b c => rw [a]; simp
  | arr a b c d => rw [a]; simp
theorem Fl.isRow (F : Fits P T) {t : Ty} {v : AV} {cs : List Value} (h : Fl T J t v cs) (hc : T.cell t = false) : ∃ d, P.underlying t = some d ∧ d.isRow = true := by
  cases h with
  | cell a b => rw [a] at hc; cases hc
  | struct a b c => obtain ⟨fs, h1, _⟩ := F.und_struct a; exact ⟨_, h1, rfl⟩
  | arr a b c d => exact ⟨_, F.und_arr a, rfl⟩
theorem run_loadAt_fl (F : Fits P T) {t : Ty} {v : AV} {cs : List Value} {w : World} {b o : Nat} (h : Fl T J t v cs) (hr : w.rangeAt b o cs) :
    ∃ x, (Instr.loadAt t (.pointer (some ⟨b, o, none⟩))).run P w = .ok x w ∧ VR T J v x := by
  rcases h.toVR F.ok with ⟨hc, c, rfl, hv⟩ | ⟨hc, hv⟩
  · refine ⟨c, ?_, .cell hv⟩
    have h0 := hr 0 c rfl
    simp only [Nat.add_zero] at h0
    simp only [Instr.loadAt, Instr.sureAddr, Sem.run_bind, Sem.run_pure, Result.andThen_ok, loadVar, run_isAgg_cell F hc w]
    simp [h0]
  · obtain ⟨d, hd, hrow⟩ := h.isRow F hc
    refine ⟨_, run_loadAt_mid w b o t cs d hr hd hrow ?_, hv⟩
    rw [h.length F.ok]
    exact F.size t h.ne_other
theorem run_storeAt_fl (F : Fits P T) {t : Ty} {v : AV} {x : Value} {w : World} {b o : Nat} (hf : fits T t v = true) (h : VR T J v x) (ht : w.there b o (T.size t)) :
    ∃ cs, Fl T J t v cs ∧ (Instr.storeAt t (.pointer (some ⟨b, o, none⟩)) x).run P w = .ok () (w.setCells b o cs) := by
  obtain ⟨cs, hfl, hcs⟩ := fits_fl F.ok hf h
  have hl := hfl.length F.ok
  refine ⟨cs, hfl, ?_⟩
  have := run_storeCells_cells (P := P) b o cs 0 w (fun j hj => by simpa using (ht j (by omega)).1) (fun j hj => by simpa using (ht j (by omega)).2) hfl.ones
  simp only [Nat.add_zero] at this
  simp only [Instr.storeAt, Instr.sureAddr, Sem.run_bind, Sem.run_pure, Result.andThen_ok, storeVar, hcs, run_size F hfl.ne_other w]
  simp [hl, this]
theorem ofPure_run {s : Sem Value} {v : AV} (h : ofPure s = some v) (w : World) : ∃ c, s.run P w = .ok c w ∧ VR T J v c := by
  unfold ofPure at h
  split at h
  · simp only [Option.some.injEq] at h; subst h; exact ⟨_, rfl, .cell (.int _ _)⟩
  · simp only [Option.some.injEq] at h; subst h; exact ⟨_, rfl, .cell (.bool _)⟩
  · simp only [Option.some.injEq] at h; subst h; exact ⟨_, rfl, .cell (.str _)⟩
  · cases h
theorem VR.int_inv {k n c} (h : VR T J (.int k n) c) : c = .int k n := by cases h with | cell a => cases a; rfl
theorem VR.bool_inv {b c} (h : VR T J (.bool b) c) : c = .bool b := by cases h with | cell a => cases a; rfl
theorem VR.str_inv {s c} (h : VR T J (.str s) c) : c = .string s := by cases h with | cell a => cases a; rfl
theorem VR.nilp_inv {c} (h : VR T J .nilp c) : c = .pointer none := by cases h with | cell a => cases a; rfl
theorem VR.nils_inv {c} (h : VR T J .nils c) : c = .slice none 0 0 := by cases h with | cell a => cases a; rfl
theorem VR.nilf_inv {c} (h : VR T J .nilf c) : c = .nilFunc := by cases h with | cell a => cases a; rfl
theorem VR.nili_inv {c} (h : VR T J .nili c) : c = .nilIface := by cases h with | cell a => cases a; rfl
theorem VR.ref_inv {r p t c} (h : VR T J (.ref r p t) c) : ∃ b o off, J.loc r = some (b, o) ∧ T.pathS (J.shape r) p = some (off, t) ∧ c = .pointer (some ⟨b, o + off, none⟩) := by
  cases h with | cell a => cases a with | ref x y => exact ⟨_, _, _, x, y, rfl⟩
theorem VR.vptr_inv {t v c} (h : VR T J (.vptr t v) c) : ∃ b o cs, Fl T J t v cs ∧ J.imms b o cs ∧ c = .pointer (some ⟨b, o, none⟩) := by
  cases h with | cell a => cases a with | vptr x y => exact ⟨_, _, _, x, y, rfl⟩
theorem VR.vsl_inv {e l k c} (h : VR T J (.vsl e l k) c) : (∃ b o cs n, FlE T J e l cs ∧ J.imms b o cs ∧ TokR J k b (o + cs.length) (n * T.size e) ∧ c = .slice (some ⟨b, o, none⟩) l.length (l.length + n)) ∨ (l = [] ∧ ∃ a, c = .slice (some a) 0 0) := by
  cases h with | cell a => cases a with
    | vsl x y z => exact .inl ⟨_, _, _, _, x, y, z, rfl⟩
    | vsle => exact .inr ⟨rfl, _, rfl⟩
theorem VR.msl_inv {r p e off len c} (h : VR T J (.msl r p e off len) c) : ∃ b o ro cap, J.loc r = some (b, o) ∧ T.rowAt (J.shape r) p e = some (ro, off + cap) ∧ len ≤ cap ∧ 0 < len ∧ c = .slice (some ⟨b, o + ro + off * T.size e, none⟩) len cap := by
  cases h with | cell a => cases a with | msl x y z u => exact ⟨_, _, _, _, x, y, z, u, rfl⟩
theorem VR.agg_inv {t fs c} (h : VR T J (.agg t fs) c) : ∃ cs, Fl T J t (.agg t fs) cs ∧ c = .agg cs.toArray := by
  cases h with
  | cell a => cases a
  | agg a => exact ⟨_, a, rfl⟩
theorem VR.tuple_inv {vs c} (h : VR T J (.tuple vs) c) : ∃ xs, VRL T J vs xs ∧ c = .tuple xs.toArray := by
  cases h with
  | cell a => cases a
  | tuple a => exact ⟨_, a, rfl⟩
theorem VR.fn_inv {f vs c} (h : VR T J (.fn f vs) c) : ∃ xs, VRL T J vs xs ∧ c = .func f #[] xs.toArray := by
  cases h with | cell a => cases a with | fn x => exact ⟨_, x, rfl⟩
theorem VR.iface_inv {t v c} (h : VR T J (.iface t v) c) : ∃ y, VR T J v y ∧ c = .iface t y := by
  cases h with | cell a => cases a with | iface x => exact ⟨_, x, rfl⟩
end
end Go.Ax

namespace Go.Ax
open Go Go.RowKit
section
variable {P : Program} {T : Tab} {J : Inj}
theorem eq_bool_bool (d : Nat) {t : TypeId} (x y : Bool) (hu : P.underlying t = some (.bool)) (w : World) : (Op.equalIn (d + 1) t (.bool x) (.bool y)).run P w = .ok (x == y) w := by
  rw [Op.equalIn, Sem.run_bind, run_underlying hu]
  rfl
theorem eq_nilp_nilp (d : Nat) {t : TypeId} (e : TypeId) (hu : P.underlying t = some (.pointer e)) (w : World) : (Op.equalIn (d + 1) t (.pointer none) (.pointer none)).run P w = .ok true w := by
  rw [Op.equalIn, Sem.run_bind, run_underlying hu]
  rfl
theorem eq_nilp_p (d : Nat) {t : TypeId} (e : TypeId) (x : Addr) (hu : P.underlying t = some (.pointer e)) (w : World) : (Op.equalIn (d + 1) t (.pointer none) (.pointer (some x))).run P w = .ok false w := by
  rw [Op.equalIn, Sem.run_bind, run_underlying hu]
  rfl
theorem eq_p_nilp (d : Nat) {t : TypeId} (e : TypeId) (x : Addr) (hu : P.underlying t = some (.pointer e)) (w : World) : (Op.equalIn (d + 1) t (.pointer (some x)) (.pointer none)).run P w = .ok false w := by
  rw [Op.equalIn, Sem.run_bind, run_underlying hu]
  rfl
theorem eq_nils_nils (d : Nat) {t : TypeId} (e : TypeId) (hu : P.underlying t = some (.slice e)) (w : World) : (Op.equalIn (d + 1) t (.slice none 0 0) (.slice none 0 0)).run P w = .ok true w := by
  rw [Op.equalIn, Sem.run_bind, run_underlying hu]
  rfl
theorem eq_nils_s (d : Nat) {t : TypeId} (e : TypeId) (x : Addr) (n m : Nat) (hu : P.underlying t = some (.slice e)) (w : World) : (Op.equalIn (d + 1) t (.slice none 0 0) (.slice (some x) n m)).run P w = .ok false w := by
  rw [Op.equalIn, Sem.run_bind, run_underlying hu]
  rfl
theorem eq_s_nils (d : Nat) {t : TypeId} (e : TypeId) (x : Addr) (n m : Nat) (hu : P.underlying t = some (.slice e)) (w : World) : (Op.equalIn (d + 1) t (.slice (some x) n m) (.slice none 0 0)).run P w = .ok false w := by
  rw [Op.equalIn, Sem.run_bind, run_underlying hu]
  rfl
theorem eq_nilf_nilf (d : Nat) {t : TypeId} (p q : Array TypeId) (r : Bool) (hu : P.underlying t = some (.func p q r)) (w : World) : (Op.equalIn (d + 1) t .nilFunc .nilFunc).run P w = .ok true w := by
  rw [Op.equalIn, Sem.run_bind, run_underlying hu]
  rfl
theorem eq_nilf_f (d : Nat) {t : TypeId} (p q : Array TypeId) (r : Bool) (f : Fn) (x y : Array Value) (hu : P.underlying t = some (.func p q r)) (w : World) : (Op.equalIn (d + 1) t .nilFunc (.func f x y)).run P w = .ok false w := by
  rw [Op.equalIn, Sem.run_bind, run_underlying hu]
  rfl
theorem eq_f_nilf (d : Nat) {t : TypeId} (p q : Array TypeId) (r : Bool) (f : Fn) (x y : Array Value) (hu : P.underlying t = some (.func p q r)) (w : World) : (Op.equalIn (d + 1) t (.func f x y) .nilFunc).run P w = .ok false w := by
  rw [Op.equalIn, Sem.run_bind, run_underlying hu]
  rfl
theorem eq_nili_nili (d : Nat) {t : TypeId} (ms : Array (String × TypeId)) (hu : P.underlying t = some (.interface ms)) (w : World) : (Op.equalIn (d + 1) t .nilIface .nilIface).run P w = .ok true w := by
  rw [Op.equalIn, Sem.run_bind, run_underlying hu]
  rfl
theorem eq_nili_i (d : Nat) {t : TypeId} (ms : Array (String × TypeId)) (x : TypeId) (v : Value) (hu : P.underlying t = some (.interface ms)) (w : World) : (Op.equalIn (d + 1) t .nilIface (.iface x v)).run P w = .ok false w := by
  rw [Op.equalIn, Sem.run_bind, run_underlying hu]
  rfl
theorem eq_i_nili (d : Nat) {t : TypeId} (ms : Array (String × TypeId)) (x : TypeId) (v : Value) (hu : P.underlying t = some (.interface ms)) (w : World) : (Op.equalIn (d + 1) t (.iface x v) .nilIface).run P w = .ok false w := by
  rw [Op.equalIn, Sem.run_bind, run_underlying hu]
  rfl
theorem run_equal {t : Ty} {a b : Value} {w : World} {r : Bool} (h : (Op.equalIn (9999 + 1) t a b).run P w = .ok r w) : (Op.equal t a b).run P w = .ok r w := by
  unfold Op.equal Op.maxDepth
  exact h
structure EqOk (P : Program) (t : Ty) (a b : Value) (r : Bool) (w : World) : Prop where
  eq : (Op.equal t a b).run P w = .ok r w
  guard : ∀ op X Y, (eqGuard op t X Y a b).run P w = .ok () w
  eql : binOp .eql t a b = (do pure (.bool (← Op.equal t a b)))
  neq : binOp .neq t a b = (do pure (.bool (!(← Op.equal t a b))))
theorem aEq_sound (F : Fits P T) {t : Ty} {x y : AV} {r : Bool} {a b : Value} (h : aEq T t x y = some r) (hx : VR T J x a) (hy : VR T J y b) (w : World) : EqOk P t a b r w := by
  unfold aEq at h
  split at h
  case h_1 hd => obtain rfl := hx.bool_inv; obtain rfl := hy.bool_inv; cases h; exact ⟨run_equal (eq_bool_bool _ _ _ (F.und_bool hd) _), fun op _ _ => by cases op <;> rfl, rfl, rfl⟩
  case h_2 hd => obtain rfl := hx.nilp_inv; obtain rfl := hy.nilp_inv; cases h; exact ⟨run_equal (eq_nilp_nilp _ _ (F.und_ptr hd) _), fun op _ _ => by cases op <;> rfl, rfl, rfl⟩
  case h_3 hd => obtain rfl := hx.nilp_inv; obtain ⟨_, _, _, _, _, rfl⟩ := hy.ref_inv; cases h; exact ⟨run_equal (eq_nilp_p _ _ _ (F.und_ptr hd) _), fun op _ _ => by cases op <;> rfl, rfl, rfl⟩
  case h_4 hd => obtain ⟨_, _, _, _, _, rfl⟩ := hx.ref_inv; obtain rfl := hy.nilp_inv; cases h; exact ⟨run_equal (eq_p_nilp _ _ _ (F.und_ptr hd) _), fun op _ _ => by cases op <;> rfl, rfl, rfl⟩
  case h_5 hd => obtain rfl := hx.nilp_inv; obtain ⟨_, _, _, _, _, rfl⟩ := hy.vptr_inv; cases h; exact ⟨run_equal (eq_nilp_p _ _ _ (F.und_ptr hd) _), fun op _ _ => by cases op <;> rfl, rfl, rfl⟩
  case h_6 hd => obtain ⟨_, _, _, _, _, rfl⟩ := hx.vptr_inv; obtain rfl := hy.nilp_inv; cases h; exact ⟨run_equal (eq_p_nilp _ _ _ (F.und_ptr hd) _), fun op _ _ => by cases op <;> rfl, rfl, rfl⟩
  case h_7 hd => obtain rfl := hx.nils_inv; obtain rfl := hy.nils_inv; cases h; exact ⟨run_equal (eq_nils_nils _ _ (F.und_slice hd) _), fun op _ _ => by cases op <;> rfl, rfl, rfl⟩
  case h_8 hd => obtain rfl := hx.nils_inv; rcases hy.vsl_inv with ⟨_, _, _, _, _, _, _, rfl⟩ | ⟨rfl, _, rfl⟩ <;> (cases h; exact ⟨run_equal (eq_nils_s _ _ _ _ _ (F.und_slice hd) _), fun op _ _ => by cases op <;> rfl, rfl, rfl⟩)
  case h_9 hd => obtain rfl := hy.nils_inv; rcases hx.vsl_inv with ⟨_, _, _, _, _, _, _, rfl⟩ | ⟨rfl, _, rfl⟩ <;> (cases h; exact ⟨run_equal (eq_s_nils _ _ _ _ _ (F.und_slice hd) _), fun op _ _ => by cases op <;> rfl, rfl, rfl⟩)
  case h_10 hd => obtain rfl := hx.nils_inv; obtain ⟨_, _, _, _, _, _, _, _, rfl⟩ := hy.msl_inv; cases h; exact ⟨run_equal (eq_nils_s _ _ _ _ _ (F.und_slice hd) _), fun op _ _ => by cases op <;> rfl, rfl, rfl⟩
  case h_11 hd => obtain ⟨_, _, _, _, _, _, _, _, rfl⟩ := hx.msl_inv; obtain rfl := hy.nils_inv; cases h; exact ⟨run_equal (eq_s_nils _ _ _ _ _ (F.und_slice hd) _), fun op _ _ => by cases op <;> rfl, rfl, rfl⟩
  case h_12 hd => obtain ⟨_, _, _, hu⟩ := F.und_func hd; obtain rfl := hx.nilf_inv; obtain rfl := hy.nilf_inv; cases h; exact ⟨run_equal (eq_nilf_nilf _ _ _ _ hu _), fun op _ _ => by cases op <;> rfl, rfl, rfl⟩
  case h_13 hd => obtain ⟨_, _, _, hu⟩ := F.und_func hd; obtain rfl := hx.nilf_inv; obtain ⟨_, _, rfl⟩ := hy.fn_inv; cases h; exact ⟨run_equal (eq_nilf_f _ _ _ _ _ _ _ hu _), fun op _ _ => by cases op <;> rfl, rfl, rfl⟩
  case h_14 hd => obtain ⟨_, _, _, hu⟩ := F.und_func hd; obtain ⟨_, _, rfl⟩ := hx.fn_inv; obtain rfl := hy.nilf_inv; cases h; exact ⟨run_equal (eq_f_nilf _ _ _ _ _ _ _ hu _), fun op _ _ => by cases op <;> rfl, rfl, rfl⟩
  case h_15 hd => obtain ⟨_, hu⟩ := F.und_iface hd; obtain rfl := hx.nili_inv; obtain ⟨_, _, rfl⟩ := hy.iface_inv; cases h; exact ⟨run_equal (eq_nili_i _ _ _ _ hu _), fun op _ _ => by cases op <;> rfl, rfl, rfl⟩
  case h_16 hd => obtain ⟨_, hu⟩ := F.und_iface hd; obtain ⟨_, _, rfl⟩ := hx.iface_inv; obtain rfl := hy.nili_inv; cases h; exact ⟨run_equal (eq_i_nili _ _ _ _ hu _), fun op _ _ => by cases op <;> rfl, rfl, rfl⟩
  case h_17 => cases h
theorem aBin_sound (F : Fits P T) {op : BinOp} {t : Ty} {x y : AV} {v : AV} {a b : Value} (X Y : Operand) (h : aBin T op t x y = some v) (hx : VR T J x a) (hy : VR T J y b) (w : World) :
    ∃ c, (do eqGuard op t X Y a b; binOp op t a b : Sem Value).run P w = .ok c w ∧ VR T J v c := by
  unfold aBin at h
  split at h
  · obtain rfl := hx.int_inv; obtain rfl := hy.int_inv
    obtain ⟨c, hc, hv⟩ := ofPure_run (P := P) (T := T) (J := J) h w
    refine ⟨c, ?_, hv⟩
    rw [Sem.run_bind]
    cases op <;> exact hc
  · obtain rfl := hx.str_inv; obtain rfl := hy.str_inv
    obtain ⟨c, hc, hv⟩ := ofPure_run (P := P) (T := T) (J := J) h w
    refine ⟨c, ?_, hv⟩
    rw [Sem.run_bind]
    cases op <;> exact hc
  · split at h
    · simp only [Option.map_eq_some_iff] at h
      obtain ⟨r, hr, rfl⟩ := h
      have e := aEq_sound F hr hx hy w
      refine ⟨.bool r, ?_, .cell (.bool _)⟩
      rw [Sem.run_bind, e.guard, Result.andThen_ok, e.eql, Sem.run_bind, e.eq]
      rfl
    · simp only [Option.map_eq_some_iff] at h
      obtain ⟨r, hr, rfl⟩ := h
      have e := aEq_sound F hr hx hy w
      refine ⟨.bool (!r), ?_, .cell (.bool _)⟩
      rw [Sem.run_bind, e.guard, Result.andThen_ok, e.neq, Sem.run_bind, e.eq]
      rfl
    · cases h
theorem nili_guard (op : BinOp) (t : Ty) (X Y : Operand) (hc : (isC X || isC Y) = true) (w : World) :
    (eqGuard op t X Y .nilIface .nilIface).run P w = .ok () w := by
  unfold eqGuard
  cases X <;> cases Y <;> first | (cases hc; done) | (cases op <;> rfl)
theorem nili_eql (F : Fits P T) {t : Ty} (X Y : Operand) (hc : (isC X || isC Y) = true) (hd : T.d t = .iface) (w : World) :
    (do eqGuard .eql t X Y .nilIface .nilIface; binOp .eql t .nilIface .nilIface : Sem Value).run P w = .ok (.bool true) w := by
  obtain ⟨ms, hu⟩ := F.und_iface hd
  rw [Sem.run_bind, nili_guard _ _ _ _ hc, Result.andThen_ok]
  show ((do pure (.bool (← Op.equal t .nilIface .nilIface)) : Sem Value)).run P w = _
  rw [Sem.run_bind, run_equal (eq_nili_nili _ _ hu _)]
  rfl
theorem nili_neq (F : Fits P T) {t : Ty} (X Y : Operand) (hc : (isC X || isC Y) = true) (hd : T.d t = .iface) (w : World) :
    (do eqGuard .neq t X Y .nilIface .nilIface; binOp .neq t .nilIface .nilIface : Sem Value).run P w = .ok (.bool false) w := by
  obtain ⟨ms, hu⟩ := F.und_iface hd
  rw [Sem.run_bind, nili_guard _ _ _ _ hc, Result.andThen_ok]
  show ((do pure (.bool (!(← Op.equal t .nilIface .nilIface))) : Sem Value)).run P w = _
  rw [Sem.run_bind, run_equal (eq_nili_nili _ _ hu _)]
  rfl
theorem aUn_sound {op : UnOp} {x v : AV} {a : Value} (h : aUn op x = some v) (hx : VR T J x a) (w : World) :
    ∃ c, (Op.unary op a).run P w = .ok c w ∧ VR T J v c := by
  unfold aUn at h
  split at h
  · obtain rfl := hx.int_inv; exact ofPure_run h w
  · obtain rfl := hx.bool_inv; exact ofPure_run h w
  · cases h
end
end Go.Ax

namespace Go.Ax
open Go Go.RowKit
section
variable {P : Program} {T : Tab} {J : Inj}
def OptVR (T : Tab) (J : Inj) : Option AV → Option Value → Prop
  | none, none => True
  | some x, some v => VR T J x v
  | _, _ => False
theorem optVR_map {ρ : Operand → AV} {σ : Operand → Value} (h : ∀ x, VR T J (ρ x) (σ x)) (o : Option Operand) : OptVR T J (o.map ρ) (o.map σ) := by
  cases o with
  | none => trivial
  | some x => exact h x
theorem run_sliceBound {k : IntKind} {i : Int} {y : Nat} (c : BoundsCode) (h : 0 ≤ i ∧ i ≤ y) (w : World) : (Instr.sliceBound (.int k i) y c).run P w = .ok i.toNat w := by
  simp [Instr.sliceBound, asIntOf, h]
theorem aBound_some {n d m : Nat} {x : AV} (h : aBound n (some x) d = some m) : ∃ k i, x = .int k i ∧ 0 ≤ i ∧ i ≤ n ∧ m = i.toNat := by
  cases x <;> simp only [aBound] at h <;> try (cases h; done)
  rename_i k i
  split at h
  · rename_i hi
    exact ⟨k, i, rfl, hi.1, hi.2, by simpa using h.symm⟩
  · cases h
theorem aBounds_sound {n l h : Nat} {lo hi mx : Option AV} {lo' hi' mx' : Option Value} (hb : aBounds n lo hi mx = some (l, h)) (h1 : OptVR T J lo lo') (h2 : OptVR T J hi hi') (h3 : OptVR T J mx mx')
    (b : Bool) (cap : Nat) (hc : n ≤ cap) (w : World) :
    ∃ m, (Instr.sliceBounds b n cap lo' hi' mx').run P w = .ok (l, h, m) w ∧ l ≤ h ∧ h ≤ n ∧ h ≤ m ∧ m ≤ cap ∧ (mx = none → m = cap) ∧ (∀ k i, mx = some (.int k i) → m = i.toNat ∧ 0 ≤ i) := by
  unfold aBounds at hb
  cases hm : aBound n mx n with
  | none => simp [hm] at hb
  | some m =>
    cases hmh : mx.isSome && hi.isNone with
    | true => simp [hm, hmh] at hb
    | false =>
      simp only [hm, hmh] at hb
      cases hh : aBound m hi n with
      | none => simp [hh] at hb
      | some h' =>
        simp only [hh] at hb
        cases hl : aBound h' lo 0 with
        | none => simp [hl] at hb
        | some l' =>
          simp only [hl, Option.some.injEq, Prod.mk.injEq] at hb
          obtain ⟨rfl, rfl⟩ := hb
          have hlo : (lo' = none ∧ l' = 0) ∨ ∃ v, lo' = some v ∧ (∀ c, (Instr.sliceBound v h' c).run P w = .ok l' w) ∧ l' ≤ h' := by
            cases lo with
            | none =>
              cases lo' with
              | none => simp only [aBound, Option.some.injEq] at hl; exact .inl ⟨rfl, hl.symm⟩
              | some v => exact h1.elim
            | some x =>
              cases lo' with
              | none => exact h1.elim
              | some v =>
                obtain ⟨k, i, rfl, h0, hle, rfl⟩ := aBound_some hl
                obtain rfl := VR.int_inv h1
                exact .inr ⟨_, rfl, fun c => run_sliceBound c ⟨h0, hle⟩ w, by omega⟩
          have hll : l' ≤ h' := by rcases hlo with ⟨_, h⟩ | ⟨_, _, _, h⟩ <;> omega
          cases mx with
          | none =>
            cases mx' with
            | some v => exact h3.elim
            | none =>
              simp only [aBound, Option.some.injEq] at hm
              subst hm
              have hhi : (hi' = none ∧ h' = n) ∨ ∃ v, hi' = some v ∧ (∀ c, (Instr.sliceBound v cap c).run P w = .ok h' w) ∧ h' ≤ n := by
                cases hi with
                | none =>
                  cases hi' with
                  | none => simp only [aBound, Option.some.injEq] at hh; exact .inl ⟨rfl, hh.symm⟩
                  | some v => exact h2.elim
                | some x =>
                  cases hi' with
                  | none => exact h2.elim
                  | some v =>
                    obtain ⟨k, i, rfl, h0, hle, rfl⟩ := aBound_some hh
                    obtain rfl := VR.int_inv h2
                    exact .inr ⟨_, rfl, fun c => run_sliceBound c ⟨h0, by omega⟩ w, by omega⟩
              have hhn : h' ≤ n := by rcases hhi with ⟨_, h⟩ | ⟨_, _, _, h⟩ <;> omega
              refine ⟨cap, ?_, hll, hhn, by omega, Nat.le_refl _, fun _ => rfl, fun k i e => by cases e⟩
              unfold Instr.sliceBounds
              rcases hhi with ⟨rfl, rfl⟩ | ⟨u, rfl, hu, -⟩ <;> rcases hlo with ⟨rfl, rfl⟩ | ⟨v, rfl, hv, -⟩
              · simp
              · simp [hv]
              · simp [hu]
              · simp [hu, hv]
          | some x =>
            cases mx' with
            | none => exact h3.elim
            | some v =>
              obtain ⟨k, i, rfl, h0, hle, rfl⟩ := aBound_some hm
              obtain rfl := VR.int_inv h3
              cases hi with
              | none => simp at hmh
              | some y =>
                cases hi' with
                | none => exact h2.elim
                | some u =>
                  obtain ⟨k2, i2, rfl, h02, hle2, rfl⟩ := aBound_some hh
                  obtain rfl := VR.int_inv h2
                  have e1 : ∀ c, (Instr.sliceBound (.int k i) cap c).run P w = .ok i.toNat w := fun c => run_sliceBound c ⟨h0, by omega⟩ w
                  have e2 : ∀ c, (Instr.sliceBound (.int k2 i2) i.toNat c).run P w = .ok i2.toNat w := fun c => run_sliceBound c ⟨h02, by omega⟩ w
                  refine ⟨i.toNat, ?_, hll, by omega, Nat.le_trans (by omega) (Nat.le_refl _), by omega, (fun e => by cases e), (fun k' i' e => by simp only [Option.some.injEq, AV.int.injEq] at e; rw [← e.2]; exact ⟨rfl, h0⟩)⟩
                  unfold Instr.sliceBounds
                  rcases hlo with ⟨rfl, h00⟩ | ⟨v, rfl, hv, -⟩
                  · simp [e1, e2, h00]
                  · simp [e1, e2, hv]
theorem FlE.drop_take (hT : T.Ok) {e : Ty} {l : List AV} {cs : List Value} (h : FlE T J e l cs) {a b : Nat} (hab : a ≤ b) (hb : b ≤ l.length) :
    ∃ c1 c2 c3, cs = c1 ++ (c2 ++ c3) ∧ c1.length = a * T.size e ∧ FlE T J e ((l.take b).drop a) c2 ∧ c3.length = (l.length - b) * T.size e := by
  have e1 : l = l.take a ++ ((l.take b).drop a ++ l.drop b) := by
    have h2 : l.take b = l.take a ++ (l.take b).drop a := by
      rw [List.drop_take]
      have := (List.take_append_drop a (l.take b)).symm
      rw [List.take_take, Nat.min_eq_left hab, List.drop_take] at this
      exact this
    rw [← List.append_assoc, ← h2, List.take_append_drop]
  rw [e1] at h
  obtain ⟨c1, c23, rfl, h1, h23⟩ := h.split
  obtain ⟨c2, c3, rfl, h2, h3⟩ := h23.split
  refine ⟨c1, c2, c3, rfl, ?_, h2, ?_⟩
  · rw [h1.length hT]; simp only [List.length_take]; rw [Nat.min_eq_left (by omega)]
  · rw [h3.length hT]; simp
theorem add_eq (b o n : Nat) : (⟨b, o, none⟩ : Addr).add n = ⟨b, o + n, none⟩ := Addr.add_mid b o n
theorem run_und {t : Ty} {D : TypeDesc} (h : P.underlying t = some D) (w : World) : (underlying t).run P w = .ok D w := run_underlying h w
theorem aSlice_sound (F : Fits P T) {t : Ty} {x v : AV} {lo hi mx : Option AV} {a : Value} {lo' hi' mx' : Option Value} (h : aSlice T t x lo hi mx = some v) (hx : VR T J x a)
    (h1 : OptVR T J lo lo') (h2 : OptVR T J hi hi') (h3 : OptVR T J mx mx') (w : World) :
    ∃ c, (Instr.sliceAt t a lo' hi' mx').run P w = .ok c w ∧ VR T J v c := by
  unfold aSlice at h
  split at h
  · rename_i s hd
    obtain rfl := hx.str_inv
    have hu := F.und_str hd
    cases mx with
    | some _ => simp at h
    | none =>
      cases mx' with
      | some _ => exact h3.elim
      | none =>
        cases hb : aBounds s.size lo hi none with
        | none => simp [hb] at h
        | some lh =>
          obtain ⟨l, hh⟩ := lh
          simp only [hb, Option.some.injEq] at h
          subst h
          obtain ⟨m, hr, -⟩ := aBounds_sound (P := P) hb h1 h2 h3 false s.size (Nat.le_refl _) w
          refine ⟨_, ?_, .cell (.str _)⟩
          unfold Instr.sliceAt
          rw [Sem.run_bind, run_und hu, Result.andThen_ok]
          simp only [Instr.slice, Sem.run_bind, run_und hu, Result.andThen_ok, Option.isSome_none, Bool.false_eq_true, if_false]
          rw [hr]
          rfl
  · rename_i e hd
    obtain rfl := hx.nils_inv
    have hu := F.und_slice hd
    cases hb : aBounds 0 lo hi mx with
    | none => simp [hb] at h
    | some lh =>
      obtain ⟨l, hh⟩ := lh
      simp only [hb, Option.some.injEq] at h
      subst h
      obtain ⟨m, hr, hlh, hh0, hhm, hm0, -⟩ := aBounds_sound (P := P) hb h1 h2 h3 true 0 (Nat.le_refl _) w
      obtain rfl : hh = 0 := by omega
      obtain rfl : l = 0 := by omega
      obtain rfl : m = 0 := by omega
      refine ⟨_, ?_, .cell .nils⟩
      unfold Instr.sliceAt
      rw [Sem.run_bind, run_und hu, Result.andThen_ok]
      simp only [Instr.slice, Sem.run_bind, run_und hu, Result.andThen_ok]
      rw [hr, Result.andThen_ok]
      simp only [run_size F (F.ok.sliceE _ _ hd) w, Result.andThen_ok]
      rfl
  · rename_i e0 e l k hd
    have hu := F.und_slice hd
    rcases hx.vsl_inv with ⟨b, o, cs, n, hfl, him, htok, rfl⟩ | ⟨rfl, ad, rfl⟩
    case inr =>
      by_cases he : T.und e0 = e
      case neg => simp [he] at h
      simp only [he, if_true] at h
      rw [show ([] : List AV).length = 0 from rfl] at h
      cases hb : aBounds 0 lo hi mx with
      | none => simp [hb] at h
      | some lh =>
        obtain ⟨i, j⟩ := lh
        simp only [hb, Option.some.injEq] at h
        subst h
        obtain ⟨m, hr, hij, hjn, hjm, hmc, hm1, hm2⟩ := aBounds_sound (P := P) hb h1 h2 h3 true 0 (Nat.le_refl _) w
        have hj0 : j = 0 := by simpa using hjn
        obtain rfl : i = 0 := by omega
        obtain rfl : m = 0 := by omega
        subst hj0
        refine ⟨.slice (some ad) 0 0, ?_, .cell .vsle⟩
        unfold Instr.sliceAt
        rw [Sem.run_bind, run_und hu, Result.andThen_ok]
        simp only [Instr.slice, Sem.run_bind, run_und hu, Result.andThen_ok]
        rw [hr, Result.andThen_ok]
        simp only [run_size F (F.ok.sliceE _ _ hd) w, Result.andThen_ok]
        rfl
    by_cases he : T.und e0 = e
    case neg => simp [he] at h
    simp only [he, if_true] at h
    have hsz : T.size e0 = T.size e := by rw [← he, F.ok.undSize]
    cases hb : aBounds l.length lo hi mx with
    | none => simp [hb] at h
    | some lh =>
      obtain ⟨i, j⟩ := lh
      simp only [hb, Option.some.injEq] at h
      subst h
      obtain ⟨m, hr, hij, hjn, hjm, hmc, hm1, hm2⟩ := aBounds_sound (P := P) hb h1 h2 h3 true (l.length + n) (by omega) w
      obtain ⟨c1, c2, c3, rfl, hl1, hf2, hl3⟩ := hfl.drop_take F.ok hij hjn
      rw [Inj.imms_append, Inj.imms_append] at him
      have hlen : ((l.take j).drop i).length = j - i := by simp; omega
      have hres : (Instr.sliceAt t (.slice (some ⟨b, o, none⟩) l.length (l.length + n)) lo' hi' mx').run P w =
          .ok (.slice (some (if m = i then (⟨b, o, none⟩ : Addr) else (⟨b, o, none⟩ : Addr).add (i * T.size e0))) (j - i) (m - i)) w := by
        unfold Instr.sliceAt
        rw [Sem.run_bind, run_und hu, Result.andThen_ok]
        simp only [Instr.slice, Sem.run_bind, run_und hu, Result.andThen_ok]
        rw [hr, Result.andThen_ok]
        simp only [run_size F (F.ok.sliceE _ _ hd) w, Result.andThen_ok, Sem.run_pure]
        split <;> rfl
      refine ⟨_, hres, .cell ?_⟩
      have htk : ∀ o', (m ≠ i → o' = o + i * T.size e) → TokR J (cutTok l.length j mx k) b (o' + c2.length) ((m - j) * T.size e) := by
        intro o' ho'
        cases mx with
        | some y =>
          cases y <;> simp only [cutTok] <;> try trivial
          rename_i k' i'
          obtain ⟨h5, h6⟩ := hm2 k' i' rfl
          split
          · rename_i h7
            have : m - j = 0 := by omega
            simp [TokR, this]
          · trivial
        | none =>
          have hmm := hm1 rfl
          simp only [cutTok]
          split
          · rename_i h7
            subst h7
            have hc3 : c3 = [] := List.eq_nil_of_length_eq_zero (by rw [hl3]; simp)
            subst hc3
            have hmn : m - l.length = n := by omega
            rw [hmn]
            by_cases hmi : m = i
            · have hn0 : n = 0 := by omega
              subst hn0
              cases k <;> simp [TokR]
            · rw [ho' hmi]
              simp only [List.length_append, hl1, List.length_nil, Nat.add_zero] at htok
              rwa [Nat.add_assoc]
          · trivial
      by_cases hmi : m = i
      · rw [if_pos hmi]
        have hc2 : c2 = [] := List.eq_nil_of_length_eq_zero (by rw [hf2.length F.ok, hlen, show j - i = 0 by omega, Nat.zero_mul])
        have := Cell.vsl (T := T) (J := J) (b := b) (o := o) (n := m - j) hf2 (by rw [hc2]; intro i v hv; simp at hv) (htk o (fun h => absurd hmi h))
        rw [hlen] at this
        rwa [show j - i + (m - j) = m - i by omega] at this
      · rw [if_neg hmi, add_eq, hsz]
        have := Cell.vsl (T := T) (J := J) (b := b) (o := o + i * T.size e) (n := m - j) hf2 (by rw [← hl1]; exact him.2.1) (htk _ (fun _ => rfl))
        rw [hlen] at this
        rwa [show j - i + (m - j) = m - i by omega] at this
  · rename_i e0 r p e off len hd
    obtain ⟨b, o, ro, cap, hloc, hrow, hlc, hl0, rfl⟩ := hx.msl_inv
    have hu := F.und_slice hd
    by_cases he : T.und e0 = e
    case neg => simp [he] at h
    simp only [he, if_true] at h
    have hsz : T.size e0 = T.size e := by rw [← he, F.ok.undSize]
    cases mx with
    | some _ => simp at h
    | none =>
      cases mx' with
      | some _ => exact h3.elim
      | none =>
        cases hb : aBounds len lo hi none with
        | none => simp [hb] at h
        | some lh =>
          obtain ⟨i, j⟩ := lh
          simp only [hb] at h
          obtain ⟨m, hr, hij, hjn, hjm, hmc, hm1, -⟩ := aBounds_sound (P := P) hb h1 h2 h3 true cap hlc w
          obtain rfl := hm1 rfl
          have hres : (Instr.sliceAt t (.slice (some ⟨b, o + ro + off * T.size e, none⟩) len m) lo' hi' none).run P w =
              .ok (.slice (some (if m = i then (⟨b, o + ro + off * T.size e, none⟩ : Addr) else (⟨b, o + ro + off * T.size e, none⟩ : Addr).add (i * T.size e0))) (j - i) (m - i)) w := by
            unfold Instr.sliceAt
            rw [Sem.run_bind, run_und hu, Result.andThen_ok]
            simp only [Instr.slice, Sem.run_bind, run_und hu, Result.andThen_ok]
            rw [hr, Result.andThen_ok]
            simp only [run_size F (F.ok.sliceE _ _ hd) w, Result.andThen_ok, Sem.run_pure]
            split <;> rfl
          refine ⟨_, hres, ?_⟩
          split at h
          · rename_i hlt
            simp only [Option.some.injEq] at h
            subst h
            rw [if_neg (by omega), add_eq, hsz]
            have := Cell.msl (T := T) (J := J) (len := j - i) (cap := m - i) (off := off + i) hloc (by rw [hrow]; congr 2; omega) (by omega) (by omega)
            rw [Nat.add_mul, ← Nat.add_assoc] at this
            exact .cell this
          · simp only [Option.some.injEq] at h
            subst h
            have hji : j - i = 0 := by omega
            rw [hji]
            have hnil : FlE T J e [] [] := .nil
            refine .cell ?_
            split
            · have := Cell.vsl (T := T) (J := J) (b := b) (o := o + ro + off * T.size e) (n := m - i) (k := .none) hnil (by intro i v hv; simp at hv) trivial
              simpa using this
            · have := Cell.vsl (T := T) (J := J) (b := b) (o := o + ro + off * T.size e + i * T.size e0) (n := m - i) (k := .none) hnil (by intro i v hv; simp at hv) trivial
              rw [add_eq]
              simpa using this
  · rename_i n e r p u hd
    have hu := F.und_arr hd
    by_cases hut : u = T.und t
    case neg => simp [hut] at h
    simp only [hut, if_true] at h
    subst hut
    obtain ⟨b, o, off, hloc, hp, rfl⟩ := hx.ref_inv
    cases mx with
    | some _ => simp at h
    | none =>
      cases mx' with
      | some _ => exact h3.elim
      | none =>
        cases hb : aBounds n lo hi none with
        | none => simp [hb] at h
        | some lh =>
          obtain ⟨i, j⟩ := lh
          simp only [hb] at h
          obtain ⟨m, hr, hij, hjn, hjm, hmc, hm1, -⟩ := aBounds_sound (P := P) hb h1 h2 h3 false n (Nat.le_refl _) w
          obtain rfl := hm1 rfl
          have hres : (Instr.sliceAt t (.pointer (some ⟨b, o + off, none⟩)) lo' hi' none).run P w =
              .ok (.slice (some (if m = i then (⟨b, o + off, none⟩ : Addr) else (⟨b, o + off, none⟩ : Addr).add (i * T.size e))) (j - i) (m - i)) w := by
            unfold Instr.sliceAt
            rw [Sem.run_bind, run_und hu, Result.andThen_ok]
            simp only [Instr.sureAddr, Sem.run_bind, Sem.run_pure, Result.andThen_ok]
            rw [hr, Result.andThen_ok]
            simp only [run_size F (F.ok.arrE _ _ _ hd) w, Result.andThen_ok]
          refine ⟨_, hres, ?_⟩
          split at h
          · rename_i hlt
            simp only [Option.some.injEq] at h
            subst h
            rw [if_neg (by omega), add_eq]
            have hra : T.rowAt (J.shape r) p (T.und e) = some (off, i + (m - i)) := by
              have hd' : T.d (T.und t) = .arr m e := by rw [F.ok.und]; exact hd
              unfold Tab.rowAt
              cases hs : J.shape r with
              | row e1 total =>
                cases p with
                | nil => rw [hs] at hp; simp [Tab.pathS] at hp
                | cons q p => rw [hs] at hp; simp only [hp, hd', if_true]; congr 2; omega
              | var t1 => rw [hs] at hp; simp only [hp, hd', if_true]; congr 2; omega
            have := Cell.msl (T := T) (J := J) (len := j - i) (cap := m - i) (off := i) hloc hra (by omega) (by omega)
            rw [F.ok.undSize] at this
            exact .cell this
          · simp only [Option.some.injEq] at h
            subst h
            have hji : j - i = 0 := by omega
            rw [hji]
            have hnil : FlE T J (T.und e) [] [] := .nil
            refine .cell ?_
            split
            · have := Cell.vsl (T := T) (J := J) (b := b) (o := o + off) (n := m - i) (k := .none) hnil (by intro i v hv; simp at hv) trivial
              simpa using this
            · have := Cell.vsl (T := T) (J := J) (b := b) (o := o + off + i * T.size e) (n := m - i) (k := .none) hnil (by intro i v hv; simp at hv) trivial
              rw [add_eq]
              simpa using this
  · rename_i n e u u' l hd
    have hu := F.und_arr hd
    obtain ⟨b, o, cs, hfl, him, rfl⟩ := hx.vptr_inv
    by_cases hut : u = T.und t
    case neg => simp [hut] at h
    simp only [hut, if_true] at h
    subst hut
    cases hfl with
    | cell a b => cases b
    | struct a b c => rw [F.ok.und, hd] at a; cases a
    | arr a b' c d =>
      rw [F.ok.und, hd] at a
      cases a
      subst c
      cases mx with
      | some _ => simp at h
      | none =>
        cases mx' with
        | some _ => exact h3.elim
        | none =>
          cases hb : aBounds l.length lo hi none with
          | none => simp [hb] at h
          | some lh =>
            obtain ⟨i, j⟩ := lh
            simp only [hb, Option.some.injEq] at h
            subst h
            obtain ⟨m, hr, hij, hjn, hjm, hmc, hm1, -⟩ := aBounds_sound (P := P) hb h1 h2 h3 false l.length (Nat.le_refl _) w
            have hml := hm1 rfl
            have hres : (Instr.sliceAt t (.pointer (some ⟨b, o, none⟩)) lo' hi' none).run P w =
                .ok (.slice (some (if m = i then (⟨b, o, none⟩ : Addr) else (⟨b, o, none⟩ : Addr).add (i * T.size e))) (j - i) (m - i)) w := by
              unfold Instr.sliceAt
              rw [Sem.run_bind, run_und hu, Result.andThen_ok]
              simp only [Instr.sureAddr, Sem.run_bind, Sem.run_pure, Result.andThen_ok]
              rw [hr]
              simp only [Result.andThen_ok, run_size F (F.ok.arrE _ _ _ hd) w]
            refine ⟨_, hres, .cell ?_⟩
            obtain ⟨c1, c2, c3, rfl, hl1, hf2, hl3⟩ := d.drop_take F.ok hij hjn
            rw [Inj.imms_append, Inj.imms_append] at him
            have hf2' : FlE T J (T.und e) ((l.take j).drop i) c2 := FlE.conv F.ok (F.ok.undUnd e).symm hf2
            have hlen : ((l.take j).drop i).length = j - i := by simp; omega
            by_cases hmi : m = i
            · rw [if_pos hmi]
              have hc2 : c2 = [] := List.eq_nil_of_length_eq_zero (by rw [hf2.length F.ok, hlen, show j - i = 0 by omega, Nat.zero_mul])
              have := Cell.vsl (T := T) (J := J) (b := b) (o := o) (n := m - j) (k := .none) hf2' (by rw [hc2]; intro i v hv; simp at hv) trivial
              rw [hlen] at this
              rwa [show j - i + (m - j) = m - i by omega] at this
            · rw [if_neg hmi, add_eq]
              have := Cell.vsl (T := T) (J := J) (b := b) (o := o + i * T.size e) (n := m - j) (k := .none) hf2' (by rw [← hl1]; exact him.2.1) trivial
              rw [hlen] at this
              rwa [show j - i + (m - j) = m - i by omega] at this
  · cases h
end
end Go.Ax

namespace Go.Ax
open Go Go.RowKit
section
variable {P : Program} {T : Tab} {J : Inj}
theorem aIndexAddr_sound (F : Fits P T) {t : Ty} {x i v : AV} {a c : Value} (h : aIndexAddr T t x i = some v) (hx : VR T J x a) (hi : VR T J i c) (w : World) :
    ∃ r, (Instr.indexAt t a c).run P w = .ok r w ∧ VR T J v r := by
  unfold aIndexAddr at h
  split at h
  · rename_i e0 e l k k' n hd
    have hu := F.und_slice hd
    obtain rfl := hi.int_inv
    rcases hx.vsl_inv with ⟨b, o, cs, m, hfl, him, -, rfl⟩ | ⟨rfl, ad, rfl⟩
    case inr => simp at h
    by_cases hc : T.und e0 = e ∧ 0 ≤ n
    case neg => simp [hc] at h
    rw [if_pos hc] at h
    simp only [Option.map_eq_some_iff] at h
    obtain ⟨f, hf, rfl⟩ := h
    obtain ⟨rfl, hn⟩ := hc
    obtain ⟨c1, c2, c3, rfl, hl, h1, -⟩ := hfl.at F.ok hf
    have hlt := (List.getElem?_eq_some_iff.1 hf).1
    rw [Inj.imms_append, Inj.imms_append, hl, F.ok.undSize] at him
    refine ⟨.pointer (some ⟨b, o + n.toNat * T.size e0, none⟩), ?_, .cell (.vptr h1 him.2.1)⟩
    unfold Instr.indexAt
    simp only [asIntOf, Sem.run_bind, Sem.run_pure, Result.andThen_ok, run_und hu]
    rw [if_pos ⟨hn, by omega⟩]
    simp only [Sem.run_bind, run_size F (F.ok.sliceE _ _ hd) w, Result.andThen_ok, add_eq, Sem.run_pure]
  · rename_i e0 r p e off len k' n hd
    have hu := F.und_slice hd
    obtain ⟨b, o, ro, cap, hloc, hrow, hlc, hl0, rfl⟩ := hx.msl_inv
    obtain rfl := hi.int_inv
    by_cases hc : T.und e0 = e ∧ 0 ≤ n ∧ n < len
    case neg => simp [hc] at h
    rw [if_pos hc] at h
    simp only [Option.some.injEq] at h
    subst h
    obtain ⟨rfl, hn, hnl⟩ := hc
    have hpath : T.pathS (J.shape r) (p ++ [off + n.toNat]) = some (ro + (off + n.toNat) * T.size e0, T.und e0) := by
      unfold Tab.rowAt at hrow
      have arrcase : ∀ s, (match T.pathS s p with
        | some (off, t) => match T.d t with
          | .arr n e' => if T.und e' = T.und e0 then some (off, n) else none
          | _ => none
        | none => none) = some (ro, off + cap) → T.pathS s (p ++ [off + n.toNat]) = some (ro + (off + n.toNat) * T.size e0, T.und e0) := by
        intro s hs
        cases hps : T.pathS s p with
        | none => simp [hps] at hs
        | some ou =>
          obtain ⟨off', u⟩ := ou
          simp only [hps] at hs
          cases hdu : T.d u with
          | arr m e' =>
            simp only [hdu] at hs
            by_cases he' : T.und e' = T.und e0
            · simp only [he', if_true, Option.some.injEq, Prod.mk.injEq] at hs
              obtain ⟨rfl, rfl⟩ := hs
              rw [Tab.pathS_append F.ok hps]
              simp only [Tab.path, hdu, show off + n.toNat < off + cap by omega, if_true, Option.map_some, Nat.add_zero, he']
              have : T.size e' = T.size e0 := by rw [← F.ok.undSize, he', F.ok.undSize]
              rw [this]
            · simp [he'] at hs
          | _ => simp [hdu] at hs
      cases hs : J.shape r with
      | var t1 => rw [hs] at hrow; exact arrcase _ hrow
      | row e1 total =>
        rw [hs] at hrow
        cases p with
        | cons q p => exact arrcase _ hrow
        | nil =>
          simp only at hrow
          by_cases he1 : e1 = T.und e0
          · subst he1
            simp only [if_true, Option.some.injEq, Prod.mk.injEq] at hrow
            obtain ⟨rfl, rfl⟩ := hrow
            simp only [List.nil_append, Tab.pathS, show off + n.toNat < off + cap by omega, if_true, Tab.path, Option.map_some, Nat.add_zero, Nat.zero_add, F.ok.undSize, F.ok.undUnd]
          · simp [he1] at hrow
    refine ⟨.pointer (some ⟨b, o + ro + off * T.size (T.und e0) + n.toNat * T.size e0, none⟩), ?_, ?_⟩
    · unfold Instr.indexAt
      simp only [asIntOf, Sem.run_bind, Sem.run_pure, Result.andThen_ok, run_und hu]
      rw [if_pos ⟨hn, by omega⟩]
      simp only [Sem.run_bind, run_size F (F.ok.sliceE _ _ hd) w, Result.andThen_ok, add_eq, Sem.run_pure]
    · have := Cell.ref (T := T) (J := J) hloc hpath
      rw [F.ok.undSize]
      rw [Nat.add_mul] at this
      rw [show o + ro + off * T.size e0 + n.toNat * T.size e0 = o + (ro + (off * T.size e0 + n.toNat * T.size e0)) by omega]
      exact .cell this
  · rename_i m e r p u k' n hd
    have hu := F.und_arr hd
    obtain ⟨b, o, off, hloc, hp, rfl⟩ := hx.ref_inv
    obtain rfl := hi.int_inv
    by_cases hc : u = T.und t ∧ 0 ≤ n ∧ n < m
    case neg => simp [hc] at h
    rw [if_pos hc] at h
    simp only [Option.some.injEq] at h
    subst h
    obtain ⟨rfl, hn, hnl⟩ := hc
    have hpath : T.pathS (J.shape r) (p ++ [n.toNat]) = some (off + n.toNat * T.size e, T.und e) := by
      rw [Tab.pathS_append F.ok hp]
      simp only [Tab.path, F.ok.und, hd, show n.toNat < m by omega, if_true, Option.map_some, Nat.add_zero]
    refine ⟨.pointer (some ⟨b, o + off + n.toNat * T.size e, none⟩), ?_, ?_⟩
    · unfold Instr.indexAt
      simp only [asIntOf, Sem.run_bind, Sem.run_pure, Result.andThen_ok, run_und hu, Instr.sureAddr]
      rw [if_pos ⟨hn, by omega⟩]
      simp only [Sem.run_bind, run_size F (F.ok.arrE _ _ _ hd) w, Result.andThen_ok, add_eq, Sem.run_pure]
    · have := Cell.ref (T := T) (J := J) hloc hpath
      rw [show o + off + n.toNat * T.size e = o + (off + n.toNat * T.size e) by omega]
      exact .cell this
  · rename_i m e u u' fs k' n hd
    have hu := F.und_arr hd
    obtain ⟨b, o, cs, hfl, him, rfl⟩ := hx.vptr_inv
    obtain rfl := hi.int_inv
    by_cases hc : u = T.und t ∧ 0 ≤ n ∧ n < m
    case neg => simp [hc] at h
    rw [if_pos hc] at h
    simp only [Option.map_eq_some_iff] at h
    obtain ⟨f, hf, rfl⟩ := h
    obtain ⟨rfl, hn, hnl⟩ := hc
    cases hfl with
    | cell a b => cases b
    | struct a b c => rw [F.ok.und, hd] at a; cases a
    | arr a b c d =>
      rw [F.ok.und, hd] at a
      cases a
      obtain ⟨c1, c2, c3, rfl, hl, h1, -⟩ := d.at F.ok hf
      rw [Inj.imms_append, Inj.imms_append, hl] at him
      refine ⟨.pointer (some ⟨_, o + n.toNat * T.size e, none⟩), ?_, .cell (.vptr (h1.und F.ok) him.2.1)⟩
      unfold Instr.indexAt
      simp only [asIntOf, Sem.run_bind, Sem.run_pure, Result.andThen_ok, run_und hu, Instr.sureAddr]
      rw [if_pos ⟨hn, by omega⟩]
      simp only [Sem.run_bind, run_size F (F.ok.arrE _ _ _ hd) w, Result.andThen_ok, add_eq, Sem.run_pure]
  · cases h
theorem run_part (F : Fits P T) {t : Ty} {v : AV} {c1 c2 c3 : List Value} (h : Fl T J t v c2) (w : World) :
    ∃ x, (part t (c1 ++ (c2 ++ c3)).toArray c1.length).run P w = .ok x w ∧ VR T J v x := by
  rcases h.toVR F.ok with ⟨hc, c, rfl, hv⟩ | ⟨hc, hv⟩
  · refine ⟨c, ?_, .cell hv⟩
    unfold part
    rw [Sem.run_bind, run_isAgg_cell F hc w]
    simp
  · refine ⟨_, ?_, hv⟩
    obtain ⟨d, hd, hrow⟩ := h.isRow F hc
    have hagg : (isAgg t).run P w = .ok true w := by
      unfold isAgg
      rw [Sem.run_bind, run_underlying hd w]
      cases d <;> simp_all
    unfold part
    rw [Sem.run_bind, hagg]
    simp only [Result.andThen_ok, if_true, Sem.run_bind, run_size F h.ne_other w, Sem.run_pure]
    rw [← h.length F.ok]
    congr 2
    simp
theorem aIndex_sound (F : Fits P T) {t : Ty} {x i v : AV} {a c : Value} (h : aIndex T t x i = some v) (hx : VR T J x a) (hi : VR T J i c) (w : World) :
    ∃ r, (Instr.index t a c).run P w = .ok r w ∧ VR T J v r := by
  unfold aIndex at h
  split at h
  · rename_i s k n hd
    have hu := F.und_str hd
    obtain rfl := hx.str_inv
    obtain rfl := hi.int_inv
    by_cases hn : 0 ≤ n
    case neg => simp [hn] at h
    simp only [hn, if_true, Option.map_eq_some_iff] at h
    obtain ⟨b, hb, rfl⟩ := h
    refine ⟨_, ?_, .cell (.int _ _)⟩
    unfold Instr.index
    simp [asIntOf, Sem.run_bind, run_und hu, hn, hb]
  · rename_i m e u fs k n hd
    have hu := F.und_arr hd
    obtain ⟨cs, hfl, rfl⟩ := hx.agg_inv
    obtain rfl := hi.int_inv
    by_cases hc : u = T.und t ∧ 0 ≤ n ∧ n < m
    case neg => simp [hc] at h
    rw [if_pos hc] at h
    obtain ⟨rfl, hn, hnl⟩ := hc
    cases hfl with
    | cell a b => cases b
    | struct a b c => rw [F.ok.und, hd] at a; cases a
    | arr a b c d =>
      rw [F.ok.und, hd] at a
      cases a
      obtain ⟨c1, c2, c3, rfl, hl, h1, -⟩ := d.at F.ok h
      obtain ⟨x, hx, hv⟩ := run_part (c1 := c1) (c3 := c3) F h1 w
      refine ⟨x, ?_, hv⟩
      unfold Instr.index
      simp only [asIntOf, Sem.run_bind, Sem.run_pure, Result.andThen_ok, run_und hu]
      rw [if_pos ⟨hn, by omega⟩, Sem.run_bind, run_size F h1.ne_other w, Result.andThen_ok, ← hl]
      exact hx
  · cases h
theorem run_fieldAt (F : Fits P T) {t : Ty} {ts : List Ty} {ft : Ty} {f : Nat} (hd : T.d t = .struct ts) (hf : ts[f]? = some ft) (hsz : T.size ft ≠ 0) (b o : Nat) (w : World) (hne : T.d ft ≠ .other) :
    (Instr.fieldAt t (.pointer (some ⟨b, o, none⟩)) f).run P w = .ok (.pointer (some ⟨b, o + T.sizes (ts.take f), none⟩)) w := by
  obtain ⟨fs, hu, hts, hoff⟩ := F.und_struct hd
  have hff : ∃ g, fs[f]? = some g ∧ g.type = ft := by
    rw [← hts, List.getElem?_map, Option.map_eq_some_iff] at hf
    obtain ⟨g, hg, rfl⟩ := hf
    exact ⟨g, by simpa using hg, rfl⟩
  obtain ⟨g, hg, rfl⟩ := hff
  have hgo := hoff f g hg
  unfold Instr.fieldAt
  rw [Sem.run_bind, run_und hu, Result.andThen_ok]
  simp only [hg]
  rw [Sem.run_bind]
  simp only [Instr.sureAddr, Sem.run_pure, Result.andThen_ok, fieldPlace, Sem.run_bind, run_size F hne w, hsz, if_false, add_eq, hgo]
theorem aFieldAddr_sound (F : Fits P T) {t : Ty} {x v : AV} {f : Nat} {a : Value} (h : aFieldAddr T t x f = some v) (hx : VR T J x a) (w : World) :
    ∃ r, (Instr.fieldAt t a f).run P w = .ok r w ∧ VR T J v r := by
  unfold aFieldAddr at h
  split at h
  · rename_i ts r p u hd
    obtain ⟨b, o, off, hloc, hp, rfl⟩ := hx.ref_inv
    by_cases hut : u = T.und t
    case neg => simp [hut] at h
    simp only [hut, if_true, Option.bind_eq_some_iff] at h
    obtain ⟨ft, hft, h⟩ := h
    by_cases hsz : T.size ft = 0
    case pos => simp [hsz] at h
    simp only [hsz, if_false, Option.some.injEq] at h
    subst h
    subst hut
    have hne : T.d ft ≠ .other := F.ok.structE _ _ hd ft (List.mem_of_getElem? hft)
    refine ⟨_, run_fieldAt F hd hft hsz b (o + off) w hne, ?_⟩
    have hpath : T.pathS (J.shape r) (p ++ [f]) = some (off + T.sizes (ts.take f), T.und ft) := by
      rw [Tab.pathS_append F.ok hp]
      simp only [Tab.path, F.ok.und, hd, hft, Option.map_some, Nat.add_zero]
    have := Cell.ref (T := T) (J := J) hloc hpath
    rw [Nat.add_assoc]
    exact .cell this
  · rename_i ts u u' fs hd
    obtain ⟨b, o, cs, hfl, him, rfl⟩ := hx.vptr_inv
    by_cases hut : u = T.und t
    case neg => simp [hut] at h
    simp only [hut, if_true, Option.bind_eq_some_iff] at h
    obtain ⟨ft, hft, h⟩ := h
    by_cases hsz : T.size ft = 0
    case pos => simp [hsz] at h
    simp only [hsz, if_false, Option.map_eq_some_iff] at h
    obtain ⟨g, hg, rfl⟩ := h
    subst hut
    cases hfl with
    | cell a b => cases b
    | arr a b c d => rw [F.ok.und, hd] at a; cases a
    | struct a b' c =>
      rw [F.ok.und, hd] at a
      cases a
      obtain ⟨f', c1, c2, c3, hf', rfl, hl, h1, -⟩ := c.at F.ok hft
      rw [hg] at hf'
      cases hf'
      rw [Inj.imms_append, Inj.imms_append, hl] at him
      exact ⟨_, run_fieldAt F hd hft hsz b o w h1.ne_other, .cell (.vptr (h1.und F.ok) him.2.1)⟩
  · cases h
theorem aField_sound (F : Fits P T) {t : Ty} {x v : AV} {f : Nat} {a : Value} (h : aField T t x f = some v) (hx : VR T J x a) (w : World) :
    ∃ r, (Instr.field t a f).run P w = .ok r w ∧ VR T J v r := by
  unfold aField at h
  split at h
  · rename_i ts u fs hd
    obtain ⟨cs, hfl, rfl⟩ := hx.agg_inv
    by_cases hut : u = T.und t
    case neg => simp [hut] at h
    simp only [hut, if_true] at h
    subst hut
    cases hfl with
    | cell a b => cases b
    | arr a b c d => rw [F.ok.und, hd] at a; cases a
    | struct a b' c =>
      rw [F.ok.und, hd] at a
      cases a
      have hlen := c.lens
      have hfl := (List.getElem?_eq_some_iff.1 h).1
      have hft : ts[f]? = some ts[f] := List.getElem?_eq_getElem (by omega)
      obtain ⟨f', c1, c2, c3, hf', rfl, hl, h1, -⟩ := c.at F.ok hft
      rw [h] at hf'
      cases hf'
      obtain ⟨fs', hu, hts, hoff⟩ := F.und_struct hd
      generalize ts[f] = ft at hft h1
      have hff : ∃ g, fs'[f]? = some g ∧ g.type = ft := by
        rw [← hts, List.getElem?_map, Option.map_eq_some_iff] at hft
        obtain ⟨g, hg, hgt⟩ := hft
        exact ⟨g, by simpa using hg, hgt⟩
      obtain ⟨g, hg, hgt⟩ := hff
      have hgo := hoff f g hg
      obtain ⟨x, hx, hv⟩ := run_part (c1 := c1) (c3 := c3) F h1 w
      refine ⟨x, ?_, hv⟩
      unfold Instr.field
      rw [Sem.run_bind, run_und hu, Result.andThen_ok]
      simp only [hg, asAgg, Sem.run_bind, Sem.run_pure, Result.andThen_ok, hgo, hgt, ← hl]
      exact hx
  · cases h
theorem aLen_sound (F : Fits P T) {t ty : Ty} {x v : AV} {a : Value} (h : aLen T t x = some v) (hx : VR T J x a) (w : World) :
    ∃ r, (Builtin.len_ #[t] ty #[a]).run P w = .ok r w ∧ VR T J v r := by
  unfold aLen at h
  split at h
  · rename_i s hd
    obtain rfl := hx.str_inv
    cases h
    exact ⟨_, by simp [Builtin.len_, run_und (F.und_str hd)]; rfl, .cell (.int _ _)⟩
  · rename_i e hd
    obtain rfl := hx.nils_inv
    cases h
    exact ⟨_, by simp [Builtin.len_, run_und (F.und_slice hd)]; rfl, .cell (.int _ _)⟩
  · rename_i e0 e l k hd
    rcases hx.vsl_inv with ⟨b, o, cs, n, -, -, -, rfl⟩ | ⟨rfl, ad, rfl⟩ <;> cases h
    · exact ⟨_, by simp [Builtin.len_, run_und (F.und_slice hd)]; rfl, .cell (.int _ _)⟩
    · exact ⟨_, by simp [Builtin.len_, run_und (F.und_slice hd)]; rfl, .cell (.int _ _)⟩
  · rename_i e0 r p e off len hd
    obtain ⟨b, o, ro, cap, -, -, -, -, rfl⟩ := hx.msl_inv
    cases h
    exact ⟨_, by simp [Builtin.len_, run_und (F.und_slice hd)]; rfl, .cell (.int _ _)⟩
  · rename_i n e hd
    cases h
    exact ⟨_, by simp [Builtin.len_, run_und (F.und_arr hd)]; rfl, .cell (.int _ _)⟩
  · cases h
end
end Go.Ax

namespace Go.Ax
open Go Go.RowKit
section
variable {P : Program} {T : Tab} {J : Inj}
mutual
theorem zeroAV_fl (J : Inj) : ∀ (k : Nat) {t : Ty} {z : AV}, zeroAV T k t = some z → ∃ cs, zeroCs T k t = some cs ∧ Fl T J t z cs
  | 0, _, _, h => by simp [zeroAV] at h
  | k + 1, t, z, h => by
    unfold zeroAV at h
    unfold zeroCs
    cases hd : T.d t with
    | struct ts =>
      simp only [hd] at h ⊢
      cases hz : zeroAVs T k ts with
      | none => simp [hz] at h
      | some fs =>
        simp only [hz, Option.some.injEq] at h
        subst h
        obtain ⟨cs, h1, h2⟩ := zeroAVs_fl J k hz
        exact ⟨cs, h1, .struct hd rfl h2⟩
    | arr n e =>
      simp only [hd] at h ⊢
      cases hz : zeroAV T k e with
      | none => simp [hz] at h
      | some f =>
        simp only [hz, Option.some.injEq] at h
        subst h
        obtain ⟨cs, h1, h2⟩ := zeroAV_fl J k hz
        refine ⟨(List.replicate n cs).flatten, by simp [h1], .arr hd rfl (by simp) ?_⟩
        clear hd
        induction n with
        | zero => exact .nil
        | succ n ih => rw [List.replicate_succ, List.replicate_succ, List.flatten_cons]; exact .cons h2 ih
    | int kd => simp only [hd, Option.some.injEq] at h ⊢; subst h; exact ⟨_, rfl, .cell (by simp [Tab.cell, hd, D.cell]) (.int _ _)⟩
    | bool => simp only [hd, Option.some.injEq] at h ⊢; subst h; exact ⟨_, rfl, .cell (by simp [Tab.cell, hd, D.cell]) (.bool _)⟩
    | str => simp only [hd, Option.some.injEq] at h ⊢; subst h; exact ⟨_, rfl, .cell (by simp [Tab.cell, hd, D.cell]) (.str _)⟩
    | ptr e => simp only [hd, Option.some.injEq] at h ⊢; subst h; exact ⟨_, rfl, .cell (by simp [Tab.cell, hd, D.cell]) .nilp⟩
    | slice e => simp only [hd, Option.some.injEq] at h ⊢; subst h; exact ⟨_, rfl, .cell (by simp [Tab.cell, hd, D.cell]) .nils⟩
    | map a b => simp only [hd, Option.some.injEq] at h ⊢; subst h; exact ⟨_, rfl, .cell (by simp [Tab.cell, hd, D.cell]) .nilm⟩
    | func => simp only [hd, Option.some.injEq] at h ⊢; subst h; exact ⟨_, rfl, .cell (by simp [Tab.cell, hd, D.cell]) .nilf⟩
    | iface => simp only [hd, Option.some.injEq] at h ⊢; subst h; exact ⟨_, rfl, .cell (by simp [Tab.cell, hd, D.cell]) .nili⟩
    | tuple => simp [hd] at h
    | other => simp [hd] at h
theorem zeroAVs_fl (J : Inj) : ∀ (k : Nat) {ts : List Ty} {zs : List AV}, zeroAVs T k ts = some zs → ∃ cs, zeroCss T k ts = some cs ∧ FlS T J ts zs cs
  | 0, _, _, h => by simp [zeroAVs] at h
  | k + 1, [], zs, h => by
    simp only [zeroAVs, Option.some.injEq] at h
    subst h
    exact ⟨[], rfl, .nil⟩
  | k + 1, t :: ts, zs, h => by
    simp only [zeroAVs] at h
    cases hz : zeroAV T k t with
    | none => simp [hz] at h
    | some z =>
      cases hs : zeroAVs T k ts with
      | none => simp [hz, hs] at h
      | some zs' =>
        simp only [hz, hs, Option.some.injEq] at h
        subst h
        obtain ⟨c1, h1, h2⟩ := zeroAV_fl J k hz
        obtain ⟨c2, h3, h4⟩ := zeroAVs_fl J k hs
        exact ⟨c1 ++ c2, by simp [zeroCss, h1, h3], .cons h2 h4⟩
end
theorem zero_fl (F : Fits P T) (J : Inj) {t : Ty} {z : AV} (h : zero T t = some z) :
    ∃ i v cs, P.info? t = some i ∧ i.zero = some v ∧ v.cells = cs.toArray ∧ Fl T J t z cs := by
  obtain ⟨cs, h1, h2⟩ := zeroAV_fl J 40 h
  obtain ⟨i, v, h3, h4, h5⟩ := F.zero t cs h1
  exact ⟨i, v, cs, h3, h4, by rw [← h5], h2⟩
theorem run_zero (F : Fits P T) (J : Inj) {t : Ty} {z : AV} (h : zero T t = some z) (w : World) :
    ∃ v cs, (zeroValue t).run P w = .ok v w ∧ v.cells = cs.toArray ∧ Fl T J t z cs := by
  obtain ⟨i, v, cs, h1, h2, h3, h4⟩ := zero_fl F J h
  exact ⟨v, cs, by simp [zeroValue, typeInfo, h1, h2], h3, h4⟩
theorem foldl_set (off : Nat) (c3 : List Value) : ∀ (l : List Value) (k : Nat) (c1 c2 : List Value), c1.length = off + k → c2.length = l.length →
    (l.zipIdx k).foldl (fun cs (x : Value × Nat) => cs.setIfInBounds (off + x.2) x.1) (c1 ++ (c2 ++ c3)).toArray = (c1 ++ (l ++ c3)).toArray
  | [], k, c1, c2, h1, h2 => by
    have : c2 = [] := List.eq_nil_of_length_eq_zero h2
    subst this
    rfl
  | x :: l, k, c1, [], h1, h2 => by simp at h2
  | x :: l, k, c1, y :: c2, h1, h2 => by
    have ih := foldl_set off c3 l (k + 1) (c1 ++ [x]) c2 (by simp; omega) (by simpa using h2)
    have hset : ((c1 ++ (y :: c2 ++ c3)).toArray.setIfInBounds (off + k) x) = ((c1 ++ [x]) ++ (c2 ++ c3)).toArray := by
      rw [List.setIfInBounds_toArray, ← h1]
      simp
    simp only [List.zipIdx_cons, List.foldl_cons]
    rw [hset, ih]
    simp
inductive PartsR (T : Tab) (J : Inj) : List (Nat × AV) → List (Nat × Value) → Prop
  | nil : PartsR T J [] []
  | cons {i v x r r'} : VR T J v x → PartsR T J r r' → PartsR T J ((i, v) :: r) ((i, x) :: r')
theorem partsR_map {ρ : Operand → AV} {σ : Operand → Value} (h : ∀ x, VR T J (ρ x) (σ x)) : ∀ (l : List (Nat × Operand)), PartsR T J (l.map fun x => (x.1, ρ x.2)) (l.map fun x => (x.1, σ x.2))
  | [] => .nil
  | _ :: l => .cons (h _) (partsR_map h l)
theorem fill_sound (hT : T.Ok) {place : Nat → Option (Nat × Nat)} {tyOf : Nat → Option Ty} {G : List AV → List Value → Prop}
    (hG : ∀ fs cs i t, G fs cs → tyOf i = some t → i < fs.length → ∃ c1 c2 c3, cs = c1 ++ (c2 ++ c3) ∧ place i = some (c1.length, T.size t) ∧ c2.length = T.size t ∧
      ∀ f' c2', Fl T J t f' c2' → G (fs.set i f') (c1 ++ (c2' ++ c3))) :
    ∀ {parts : List (Nat × AV)} {parts' : List (Nat × Value)} {fs fs' : List AV} {cs : List Value}, aFill T tyOf fs parts = some fs' → PartsR T J parts parts' → G fs cs →
      ∃ cs', Instr.fill place cs.toArray parts' = some cs'.toArray ∧ G fs' cs'
  | [], _, fs, fs', cs, h, .nil, hg => by
    simp only [aFill, Option.some.injEq] at h
    subst h
    exact ⟨cs, rfl, hg⟩
  | (i, v) :: parts, _, fs, fs', cs, h, .cons (r' := r') (x := x) hv hr, hg => by
    simp only [aFill] at h
    cases ht : tyOf i with
    | none => simp [ht] at h
    | some t =>
      simp only [ht] at h
      by_cases hc : i < fs.length ∧ fits T t v = true
      case neg => simp [hc] at h
      rw [if_pos hc] at h
      obtain ⟨c1, c2, c3, rfl, hp, hl, hset⟩ := hG _ _ _ _ hg ht hc.1
      obtain ⟨d, hd, hx⟩ := fits_fl hT hc.2 hv
      have hdl := hd.length hT
      obtain ⟨cs', h1, h2⟩ := fill_sound hT hG h hr (hset _ _ hd)
      refine ⟨cs', ?_, h2⟩
      simp only [Instr.fill, hp, hx]
      rw [if_neg (by simp [hdl]; omega)]
      have := foldl_set c1.length c3 d 0 c1 c2 (by omega) (by omega)
      rw [← Array.foldl_toList, Array.toList_zipIdx]
      rw [show (List.toArray d).toList = d from rfl, this]
      exact h1
theorem aBuild_sound (F : Fits P T) {t : Ty} {parts : List (Nat × AV)} {ps : Array (Nat × Value)} {v : AV} (h : aBuild T t parts = some v) (hp : PartsR T J parts ps.toList) (w : World) :
    ∃ r, (Instr.build t ps).run P w = .ok r w ∧ VR T J v r := by
  unfold aBuild at h
  split at h
  · rename_i ts u fs hd hz
    obtain ⟨i, z, cs, hi, hz2, hzc, hfl⟩ := zero_fl F J hz
    simp only [Option.map_eq_some_iff] at h
    obtain ⟨fs', hf, rfl⟩ := h
    obtain ⟨fields, hu, hts, hoff⟩ := F.und_struct hd
    cases hfl with
    | cell a b => cases b
    | arr a b c d => rw [hd] at a; cases a
    | struct a b c =>
      rw [hd] at a
      cases a
      have hplaces : fields.toList.mapM (fun f => (P.info? f.type).map fun i => (f.offset, i.size)) = some (fields.toList.map fun f => (f.offset, T.size f.type)) := by
        have hall : ∀ f ∈ fields.toList, (P.info? f.type).map (fun i => (f.offset, i.size)) = some (f.offset, T.size f.type) := fun f hf => by
          have hne := F.ok.structE _ _ hd f.type (by rw [← hts]; exact List.mem_map.2 ⟨f, hf, rfl⟩)
          have := F.size f.type hne
          cases hif : P.info? f.type with
          | none => simp [hif] at this
          | some j => simp only [hif, Option.map_some, Option.some.injEq] at this ⊢; rw [this]
        clear hoff hu hts
        revert hall
        generalize fields.toList = fl
        intro hall
        induction fl with
        | nil => rfl
        | cons f l ih =>
          rw [List.mapM_cons, hall f (by simp), ih (fun g hg => hall g (by simp [hg]))]
          rfl
      have hG : ∀ (gs : List AV) (ds : List Value) (j : Nat) (t' : Ty), FlS T J ts gs ds → ts[j]? = some t' → j < gs.length →
          ∃ c1 c2 c3, ds = c1 ++ (c2 ++ c3) ∧ (fields.toList.map fun f => (f.offset, T.size f.type)).toArray[j]? = some (c1.length, T.size t') ∧ c2.length = T.size t' ∧
          ∀ f' c2', Fl T J t' f' c2' → FlS T J ts (gs.set j f') (c1 ++ (c2' ++ c3)) := by
        intro gs ds j t' hgs htj _
        obtain ⟨f, c1, c2, c3, hf, rfl, hl, h1, h2⟩ := hgs.at F.ok htj
        refine ⟨c1, c2, c3, rfl, ?_, h1.length F.ok, h2⟩
        rw [← hts, List.getElem?_map, Option.map_eq_some_iff] at htj
        obtain ⟨g, hg, rfl⟩ := htj
        rw [List.getElem?_toArray, List.getElem?_map, hg]
        simp only [Option.map_some, Option.some.injEq, Prod.mk.injEq, and_true]
        rw [hoff j g (by simpa using hg), hl]
      obtain ⟨cs', h1, h2⟩ := fill_sound F.ok hG hf hp c
      refine ⟨.agg cs'.toArray, run_build w t ps _ ?_, ?_⟩
      · simp only [Program.built, hi, hu, hz2, hplaces, hzc]
        exact h1
      · subst b
        exact .agg ((Fl.struct hd rfl h2).und F.ok)
  · rename_i n e u fs hd hz
    obtain ⟨i, z, cs, hi, hz2, hzc, hfl⟩ := zero_fl F J hz
    simp only [Option.map_eq_some_iff] at h
    obtain ⟨fs', hf, rfl⟩ := h
    have hu := F.und_arr hd
    cases hfl with
    | cell a b => cases b
    | struct a b c => rw [hd] at a; cases a
    | arr a b c d =>
      rw [hd] at a
      cases a
      have hie : ∃ ie, P.info? e = some ie ∧ ie.size = T.size e := by
        have := F.size e (F.ok.arrE _ _ _ hd)
        cases hif : P.info? e with
        | none => simp [hif] at this
        | some j => simp only [hif, Option.map_some, Option.some.injEq] at this; exact ⟨j, rfl, this⟩
      obtain ⟨ie, hie, hies⟩ := hie
      have hG : ∀ (gs : List AV) (ds : List Value) (j : Nat) (t' : Ty), (FlE T J e gs ds ∧ gs.length = fs.length) → some e = some t' → j < gs.length →
          ∃ c1 c2 c3, ds = c1 ++ (c2 ++ c3) ∧ some (j * ie.size, ie.size) = some (c1.length, T.size t') ∧ c2.length = T.size t' ∧
          ∀ f' c2', Fl T J t' f' c2' → (FlE T J e (gs.set j f') (c1 ++ (c2' ++ c3)) ∧ (gs.set j f').length = fs.length) := by
        intro gs ds j t' hgs htj hj
        cases htj
        obtain ⟨c1, c2, c3, rfl, hl, h1, h2⟩ := hgs.1.at F.ok (List.getElem?_eq_getElem hj)
        refine ⟨c1, c2, c3, rfl, by rw [hies, hl], h1.length F.ok, fun f' c2' h' => ⟨h2 _ _ h', by simpa using hgs.2⟩⟩
      obtain ⟨cs', h1, h2⟩ := fill_sound F.ok hG hf hp ⟨d, rfl⟩
      refine ⟨.agg cs'.toArray, run_build w t ps _ ?_, ?_⟩
      · simp only [Program.built, hi, hu, hz2, hie, hzc]
        exact h1
      · subst b
        exact .agg ((Fl.arr hd rfl (by rw [h2.2]; exact c) h2.1).und F.ok)
  · cases h
theorem FlE.replicate {e : Ty} {z : AV} {c : List Value} (h : Fl T J e z c) : ∀ n, FlE T J e (List.replicate n z) (List.replicate n c).flatten
  | 0 => .nil
  | n + 1 => by rw [List.replicate_succ, List.replicate_succ, List.flatten_cons]; exact .cons h (FlE.replicate h n)
theorem zeros_list {c : List Value} {n : Nat} (hc : c ≠ []) : ((Array.range (n * c.length)).map fun i => c.toArray[i % c.toArray.size]!) = (List.replicate n c).flatten.toArray := by
  apply Array.ext_getElem?
  intro i
  rw [Array.getElem?_map]
  rw [show (List.replicate n c).flatten.toArray[i]? = (List.replicate n c).flatten[i]? from List.getElem?_toArray ..]
  have hpos : 0 < c.length := List.length_pos_iff.2 hc
  have hlen : (List.replicate n c).flatten.length = n * c.length := by simp
  rcases Nat.lt_or_ge i (n * c.length) with hi | hi
  · rw [Array.getElem?_range]
    simp only [hi, if_true, Option.map_some]
    have hmod := Nat.mod_lt i hpos
    have key : ∀ (n i : Nat), i < n * c.length → (List.replicate n c).flatten[i]? = c[i % c.length]? := by
      intro n
      induction n with
      | zero => intro i hi; simp at hi
      | succ n ih =>
        intro i hi
        rw [List.replicate_succ, List.flatten_cons]
        rcases Nat.lt_or_ge i c.length with h1 | h1
        · rw [List.getElem?_append_left h1, Nat.mod_eq_of_lt h1]
        · rw [List.getElem?_append_right h1, ih _ (by rw [Nat.add_mul] at hi; omega)]
          rw [Nat.mod_eq_sub_mod h1]
    rw [key n i hi, List.getElem?_eq_getElem hmod]
    congr 1
    simp [getElem!_pos, hmod]
  · rw [List.getElem?_eq_none (by omega), Array.getElem?_eq_none (by simp; omega)]
    rfl
theorem zeros_cells (hT : T.Ok) {e : Ty} {z : AV} {c : List Value} (h : Fl T J e z c) (n : Nat) (zv : Array Value) (hz : n * T.size e ≠ 0 → zv = c.toArray) :
    ((Array.range (n * T.size e)).map fun i => zv[i % zv.size]!) = (List.replicate n c).flatten.toArray := by
  have hl := h.length hT
  by_cases h0 : n * T.size e = 0
  · rw [h0]
    have : (List.replicate n c).flatten = [] := List.eq_nil_of_length_eq_zero (by simp; rw [← hl] at h0; simpa using h0)
    rw [this]
    simp
  · rw [hz h0, ← hl]
    refine zeros_list (fun e0 => ?_)
    rw [e0] at hl
    simp at hl
    rw [← hl] at h0
    simp at h0
theorem aElems_sound (F : Fits P T) {t : Ty} {len : Nat} {parts : List (Nat × AV)} {ps : Array (Nat × Value)} {e : Ty} {l : List AV} (h : aElems T t len parts = some (e, l)) (hp : PartsR T J parts ps.toList) (w : World) :
    ∃ e0 cs, T.d t = .slice e0 ∧ e = T.und e0 ∧ l.length = len ∧ FlE T J e l cs ∧ (Instr.buildSlice t len ps).run P w = .ok (.slice (some ⟨w.heap.size, 0, none⟩) len len) (w.alloc (.cells cs.toArray e0)) := by
  unfold aElems at h
  split at h
  case h_2 => cases h
  rename_i e0 hd
  by_cases hsz : len * T.size e0 ≤ 2 ^ 24
  case neg => simp [hsz] at h
  simp only [hsz, if_true] at h
  cases hz : zero T e0 with
  | none => simp [hz] at h
  | some z =>
    simp only [hz, Option.map_eq_some_iff, Prod.mk.injEq] at h
    obtain ⟨l', hf, rfl, rfl⟩ := h
    obtain ⟨zv, c, hrz, hzc, hfl⟩ := run_zero F J hz w
    have hu := F.und_slice hd
    have hne := F.ok.sliceE _ _ hd
    have hG : ∀ (gs : List AV) (ds : List Value) (j : Nat) (t' : Ty), (FlE T J e0 gs ds ∧ gs.length = len) → some e0 = some t' → j < gs.length →
        ∃ c1 c2 c3, ds = c1 ++ (c2 ++ c3) ∧ some (j * T.size e0, T.size e0) = some (c1.length, T.size t') ∧ c2.length = T.size t' ∧
        ∀ f' c2', Fl T J t' f' c2' → (FlE T J e0 (gs.set j f') (c1 ++ (c2' ++ c3)) ∧ (gs.set j f').length = len) := by
      intro gs ds j t' hgs htj hj
      cases htj
      obtain ⟨c1, c2, c3, rfl, hl, h1, h2⟩ := hgs.1.at F.ok (List.getElem?_eq_getElem hj)
      exact ⟨c1, c2, c3, rfl, by rw [hl], h1.length F.ok, fun f' c2' h' => ⟨h2 _ _ h', by simpa using hgs.2⟩⟩
    obtain ⟨cs', h1, h2⟩ := fill_sound F.ok hG hf hp ⟨FlE.replicate hfl len, by simp⟩
    refine ⟨e0, cs', hd, rfl, h2.2, FlE.conv F.ok (F.ok.undUnd _).symm h2.1, ?_⟩
    have hc := zeros_cells F.ok hfl len
    unfold Instr.buildSlice
    rw [Sem.run_bind, run_und hu, Result.andThen_ok]
    simp only [Sem.run_bind, run_size F hne w, Result.andThen_ok]
    rw [if_neg (by omega)]
    by_cases h0 : len * T.size e0 = 0
    · simp only [h0, if_true, Sem.run_bind, Sem.run_pure, Result.andThen_ok]
      have hc0 := hc #[] (fun hn => absurd h0 hn)
      rw [h0] at hc0
      rw [hc0, h1]
      rfl
    · simp only [h0, if_false, Sem.run_bind, hrz, Sem.run_pure, Result.andThen_ok]
      have hc0 := hc zv.cells (fun _ => hzc)
      rw [hc0, h1]
      rfl
end
end Go.Ax

namespace Go.Ax
open Go Go.RowKit
section
variable {P : Program} {T : Tab} {J : Inj} {B : Nat} {w0 w : World} {h : Heap}
theorem Inj.imms_rangeAt (R : Rel T B w0 J h w) {b o : Nat} {cs : List Value} (hi : J.imms b o cs) : w.rangeAt b o cs := fun j v hv => (R.imm _ _ _ (hi j v hv)).1
theorem rangeAt_loadCells {b o : Nat} {cs : List Value} (hr : w.rangeAt b o cs) (k : Nat) (hk : k ≤ cs.length) :
    (loadCells ⟨b, o, none⟩ k).run P w = .ok (cs.take k).toArray w := by
  have := run_loadCells_list (P := P) w ⟨b, o, none⟩ (cs.take k) (fun j v hv => by
    rw [Addr.add_mid]
    refine hr j v ?_
    rw [List.getElem?_take] at hv
    split at hv
    · exact hv
    · cases hv)
  rwa [List.length_take, Nat.min_eq_left hk] at this
theorem Rel.obj (R : Rel T B w0 J h w) {r b o : Nat} {ob : Obj} (hr : h[r]? = some ob) (hl : J.loc r = some (b, o)) (hk : ∀ g, ob ≠ .tok g) (hd : ob ≠ .dead) :
    ∃ cs, ObjC T J ob (J.shape r) cs ∧ has w J r b o cs := by
  cases R.objs r ob hr with
  | obj a c d =>
    rw [hl] at a
    cases a
    exact ⟨_, c, d⟩
  | tok a c d => exact absurd rfl (hk _)
  | dead => exact absurd rfl hd
theorem rowGet_kinds {ob : Obj} {p : List Nat} {l : List AV} (h : rowGet ob p = some l) : (∀ g, ob ≠ .tok g) ∧ ob ≠ .dead := by
  constructor
  · rintro g rfl; cases p <;> simp [rowGet, objGet] at h
  · rintro rfl; cases p <;> simp [rowGet, objGet] at h
theorem objGet_kinds {ob : Obj} {p : List Nat} {v : AV} (h : objGet ob p = some v) : (∀ g, ob ≠ .tok g) ∧ ob ≠ .dead := by
  constructor
  · rintro g rfl; cases p <;> simp [objGet] at h
  · rintro rfl; cases p <;> simp [objGet] at h
theorem slElems_sound (F : Fits P T) (R : Rel T B w0 J h w) {x : AV} {l : List AV} {a : Value} (hs : slElems h x = some l) (hx : VR T J x a) :
    (l = [] ∧ ∃ ad, a = .slice ad 0 0) ∨
    ∃ e b o cs cap, FlE T J e l cs ∧ w.rangeAt b o cs ∧ a = .slice (some ⟨b, o, none⟩) l.length cap ∧
      ((∃ k, x = .vsl e l k) ∨ (∃ r p off len, x = .msl r p e off len)) := by
  unfold slElems at hs
  split at hs
  · obtain rfl := hx.nils_inv
    simp only [Option.some.injEq] at hs
    exact .inl ⟨hs.symm, _, rfl⟩
  · simp only [Option.some.injEq] at hs
    subst hs
    rcases hx.vsl_inv with ⟨b, o, cs, n, h1, h2, -, rfl⟩ | ⟨rfl, ad, rfl⟩
    case inr => exact .inl ⟨rfl, _, rfl⟩
    exact .inr ⟨_, b, o, cs, _, h1, Inj.imms_rangeAt R h2, rfl, .inl ⟨_, rfl⟩⟩
  · rename_i r p e off len
    obtain ⟨b, o, ro, cap, hloc, hrow, hlc, hl0, rfl⟩ := hx.msl_inv
    cases hr : h[r]? with
    | none => simp [hr] at hs
    | some ob =>
      simp only [hr, Option.bind_some] at hs
      cases hg : rowGet ob p with
      | none => simp [hg] at hs
      | some l0 =>
        simp only [hg] at hs
        by_cases hle : off + len ≤ l0.length
        case neg => simp [hle] at hs
        simp only [hle, if_true, Option.some.injEq] at hs
        subst hs
        have hk := rowGet_kinds hg
        obtain ⟨cs, hc, hh⟩ := R.obj hr hloc hk.1 hk.2
        obtain ⟨c1, c2, c3, rfl, hl1, hf, hln, -⟩ := hc.rowPart F.ok hrow hg
        obtain ⟨d1, d2, d3, rfl, hld1, hd2, -⟩ := hf.drop_take F.ok (a := off) (b := off + len) (by omega) hle
        have hrange := hh.rangeAt
        have hlen : ((l0.drop off).take len).length = len := by simp; omega
        have hdt : (l0.take (off + len)).drop off = (l0.drop off).take len := by rw [List.drop_take]; congr 1; omega
        rw [hdt] at hd2
        refine .inr ⟨e, b, o + ro + off * T.size e, d2, cap, hd2, fun j v hv => ?_, by rw [hlen], .inr ⟨r, p, off, len, rfl⟩⟩
        have hj := (List.getElem?_eq_some_iff.1 hv).1
        have := hrange (c1.length + (d1.length + j)) v (by
          rw [List.getElem?_append_right (by omega), Nat.add_sub_cancel_left, List.append_assoc, List.getElem?_append_right (by omega), Nat.add_sub_cancel_left, List.append_assoc, List.getElem?_append_left hj]
          exact hv)
        rw [hl1, hld1] at this
        rw [show o + ro + off * T.size e + j = o + (ro + (off * T.size e + j)) by omega]
        exact this
  · cases hs
theorem ofBytes_fl {e : Ty} (he : T.d e = .int .u8) : ∀ (l : List UInt8), FlE T J e (ofBytes l) (l.map fun b => Value.int .u8 b.toNat)
  | [] => .nil
  | b :: l => FlE.cons (c := [.int .u8 b.toNat]) (.cell (by simp [Tab.cell, he, D.cell]) (.int _ _)) (ofBytes_fl he l)
theorem srcElems_sound (F : Fits P T) (R : Rel T B w0 J h w) {e : Ty} {x : AV} {l : List AV} {a : Value} (hs : srcElems T e h x = some l) (hx : VR T J x a) :
    (Builtin.lenOf a).run P w = .ok l.length w ∧ ∃ cs, FlE T J (T.und e) l cs ∧ ∀ k, k ≤ l.length → (Builtin.firstCells (T.size e) k a).run P w = .ok (cs.take (k * T.size e)).toArray w := by
  have main : ∀ {x}, slElems h x = some l → VR T J x a → (∀ e', (∃ k, x = .vsl e' l k) ∨ (∃ r p off len, x = .msl r p e' off len) → e' = T.und e) →
      (Builtin.lenOf a).run P w = .ok l.length w ∧ ∃ cs, FlE T J (T.und e) l cs ∧ ∀ k, k ≤ l.length → (Builtin.firstCells (T.size e) k a).run P w = .ok (cs.take (k * T.size e)).toArray w := by
    intro x hs hx he
    rcases slElems_sound F R hs hx with ⟨rfl, ad, rfl⟩ | ⟨e', b, o, cs, cap, h1, h2, rfl, h3⟩
    · refine ⟨rfl, [], .nil, fun k hk => ?_⟩
      obtain rfl : k = 0 := by simpa using hk
      cases ad <;> simp [Builtin.firstCells]
      rfl
    · obtain rfl := he e' h3
      have hl := h1.length F.ok
      rw [F.ok.undSize] at hl
      refine ⟨rfl, cs, h1, fun k hk => ?_⟩
      exact rangeAt_loadCells h2 _ (by rw [hl]; exact Nat.mul_le_mul_right _ hk)
  unfold srcElems at hs
  split at hs
  · rename_i s
    obtain rfl := hx.str_inv
    by_cases he : T.d e = .int .u8
    case neg => simp [he] at hs
    simp only [he, if_true, Option.some.injEq] at hs
    subst hs
    have hsz : T.size e = 1 := F.ok.cell _ (by simp [Tab.cell, he, D.cell])
    have hll : (ofBytes s.data.toList).length = s.size := by simp [ofBytes]
    refine ⟨by rw [hll]; rfl, _, (FlE.conv F.ok (F.ok.undUnd e).symm (ofBytes_fl he s.data.toList)), fun k hk => ?_⟩
    simp only [Builtin.firstCells, Sem.run_pure, hsz, Nat.mul_one]
    congr 1
    rw [hll] at hk
    apply Array.ext'
    simp [ByteArray.extract, ByteArray.copySlice]
  · rename_i e' l' k
    by_cases he : e' = T.und e
    case neg => simp [he] at hs
    simp only [he, if_true, Option.some.injEq] at hs
    subst hs
    exact main (x := .vsl e' l' k) rfl hx (fun e'' h => by rcases h with ⟨k, hk⟩ | ⟨r, p, off, len, hk⟩ <;> cases hk; exact he)
  · rename_i r p e' off len
    by_cases he : e' = T.und e
    case neg => simp [he] at hs
    simp only [he, if_true] at hs
    subst he
    exact main (x := .msl r p (T.und e) off len) hs hx (fun e'' h => by rcases h with ⟨k, hk⟩ | ⟨r, p, off, len, hk⟩ <;> cases hk; rfl)
  · simp only [Option.some.injEq] at hs
    subst hs
    exact main (x := .nils) rfl hx (fun e'' h => by rcases h with ⟨k, hk⟩ | ⟨r, p, off, len, hk⟩ <;> cases hk)
  · cases hs
theorem exLoad_sound (F : Fits P T) (R : Rel T B w0 J h w) {t : Ty} {x v : AV} {a : Value}
    (hl : (match x with
    | .ref r p u => if u = T.und t then (h[r]?).bind (objGet · p) else none
    | .vptr u v => if u = T.und t then some v else none
    | _ => none) = some v) (hx : VR T J x a) : ∃ c, (Instr.loadAt t a).run P w = .ok c w ∧ VR T J v c := by
  split at hl
  · rename_i r p u
    by_cases hu : u = T.und t
    case neg => simp [hu] at hl
    simp only [hu, if_true, Option.bind_eq_some_iff] at hl
    obtain ⟨ob, hr, hg⟩ := hl
    subst hu
    obtain ⟨b, o, off, hloc, hp, rfl⟩ := hx.ref_inv
    have hk := objGet_kinds hg
    obtain ⟨cs, hc, hh⟩ := R.obj hr hloc hk.1 hk.2
    obtain ⟨c1, c2, c3, rfl, hl1, hf, -⟩ := hc.part F.ok hp hg
    refine run_loadAt_fl F (hf.ofUnd F.ok) (fun j c hj => ?_)
    have hjl := (List.getElem?_eq_some_iff.1 hj).1
    have := hh.rangeAt (c1.length + j) c (by rw [List.getElem?_append_right (by omega), Nat.add_sub_cancel_left, List.getElem?_append_left hjl]; exact hj)
    rw [hl1] at this
    rwa [Nat.add_assoc]
  · rename_i u v'
    by_cases hu : u = T.und t
    case neg => simp [hu] at hl
    simp only [hu, if_true, Option.some.injEq] at hl
    subst hl
    subst hu
    obtain ⟨b, o, cs, hf, him, rfl⟩ := hx.vptr_inv
    exact run_loadAt_fl F (hf.ofUnd F.ok) (Inj.imms_rangeAt R him)
  · cases hl
theorem bytesOf_fl (F : Fits P T) : ∀ {l : List AV} {bs : List UInt8} {e : Ty} {cs : List Value}, bytesOf l = some bs → FlE T J e l cs →
    ∃ ns : List Int, cs = ns.map (Value.int .u8) ∧ bs = ns.map fun n => UInt8.ofNat n.toNat
  | [], bs, e, cs, h, hf => by
    simp only [bytesOf, Option.some.injEq] at h
    cases hf
    exact ⟨[], rfl, h.symm⟩
  | v :: l, bs, e, cs, h, hf => by
    cases hf with
    | cons a b =>
      unfold bytesOf at h
      split at h
      · cases ‹_ = []›
      · rename_i n l' heq
        simp only [List.cons.injEq] at heq
        obtain ⟨rfl, rfl⟩ := heq
        simp only [Option.map_eq_some_iff] at h
        obtain ⟨bs', h1, rfl⟩ := h
        obtain ⟨ns, rfl, rfl⟩ := bytesOf_fl F h1 b
        cases a with
        | cell hc hv =>
          cases hv
          exact ⟨n :: ns, rfl, rfl⟩
      · cases h
theorem bytesOf_len : ∀ {l : List AV} {bs : List UInt8}, bytesOf l = some bs → bs.length = l.length
  | [], bs, h => by simp only [bytesOf, Option.some.injEq] at h; subst h; rfl
  | v :: l, bs, h => by
    unfold bytesOf at h
    split at h
    · cases ‹_ = []›
    · rename_i n l' heq
      simp only [List.cons.injEq] at heq
      obtain ⟨rfl, rfl⟩ := heq
      simp only [Option.map_eq_some_iff] at h
      obtain ⟨bs', h1, rfl⟩ := h
      simp [bytesOf_len h1]
    · cases h
theorem forIn_bytes (P : Program) (w : World) (f : Value → ByteArray → Sem (ForInStep ByteArray)) (hf : ∀ n r, f (.int .u8 n) r = pure (.yield (r.push (UInt8.ofNat n.toNat)))) : ∀ (ns : List Int) (acc : ByteArray),
    (forIn (ns.map (Value.int .u8)) acc f : Sem ByteArray).run P w = .ok ⟨acc.data ++ (ns.map fun n => UInt8.ofNat n.toNat).toArray⟩ w
  | [], acc => by
    simp
  | n :: ns, acc => by
    have ih := forIn_bytes P w f hf ns (acc.push (UInt8.ofNat n.toNat))
    rw [List.map_cons, List.forIn_cons, hf, Sem.run_bind]
    simp only [Sem.run_pure, Result.andThen_ok]
    rw [ih]
    congr 2
    simp [ByteArray.push]
theorem run_bytesToString (w : World) {b o : Nat} (n cap : Nat) {ns : List Int} (hn : ns.length = n) (hr : w.rangeAt b o (ns.map (Value.int .u8))) :
    (Conv.bytesToString (.slice (some ⟨b, o, none⟩) n cap)).run P w = .ok (.string ⟨(ns.map fun n => UInt8.ofNat n.toNat).toArray⟩) w := by
  have h1 := rangeAt_loadCells (P := P) hr n (by simp [hn])
  rw [List.take_of_length_le (by simp [hn])] at h1
  unfold Conv.bytesToString
  simp only [Sem.run_bind, h1, Result.andThen_ok]
  rw [← Array.forIn_toList]
  rw [forIn_bytes P w _ (fun _ _ => rfl) ns ByteArray.empty]
  simp [ByteArray.empty, ByteArray.emptyWithCapacity]
  rfl
end
end Go.Ax

namespace Go.Ax
open Go Go.RowKit
section
variable {P : Program} {T : Tab} {J : Inj} {B : Nat} {w0 w : World} {h : Heap}
theorem growBy_le (n : Nat) : ∀ (r c : Nat), 256 ≤ c → c ≤ 2 * n → Builtin.growBy n r c ≤ 2 * n
  | 0, c, _, h => h
  | r + 1, c, h1, h2 => by
    unfold Builtin.growBy
    split
    · exact h2
    · exact growBy_le n r _ (by omega) (by omega)
theorem nextslicecap_le {n c : Nat} (h : c < n) : Builtin.nextslicecap n c ≤ 2 * n := by
  unfold Builtin.nextslicecap
  split
  · omega
  · split
    · omega
    · exact growBy_le n 4 c (by omega) (by omega)
theorem run_choose_cap (need old : Nat) (e : TypeId) (w : World) : ∃ c, need ≤ c ∧ (choose (.appendCap need old e)).run P w = .ok c w.drew := by
  refine ⟨need + (w.tape w.drawn (.appendCap need old e)) % (2 ^ 63 - need), by omega, ?_⟩
  simp only [choose, Sem.run, Question.forced, Question.cut]
  rfl
theorem run_askRoom (n : Nat) (w : World) : (askRoom n).run P w = .ok () w := by
  unfold askRoom
  split <;> rfl
theorem zeroCells_eq (z : Array Value) (n : Nat) : (Builtin.zeroCells z n).size = n * z.size := by simp [Builtin.zeroCells]
theorem zeroCells_ones (F : Fits P T) (J : Inj) {e : Ty} {z : AV} (hz : zero T e = some z) (n : Nat) (w : World) :
    ∃ (zv : Value) (ss : List Value), (zeroValue e).run P w = .ok zv w ∧ Builtin.zeroCells zv.cells n = ss.toArray ∧ ss.length = n * T.size e ∧ ∀ c ∈ ss, c.oneCell' = true := by
  obtain ⟨zv, cs, h1, h2, h3⟩ := run_zero F J hz w
  have hl := h3.length F.ok
  refine ⟨zv, (Builtin.zeroCells zv.cells n).toList, h1, rfl, by rw [Array.length_toList, zeroCells_eq, h2]; simp [hl], fun c hc => ?_⟩
  rw [Array.mem_toList_iff] at hc
  simp only [Builtin.zeroCells, Array.mem_map, Array.mem_range] at hc
  obtain ⟨i, hi, rfl⟩ := hc
  have hpos : 0 < zv.cells.size := by
    rcases Nat.eq_zero_or_pos zv.cells.size with h0 | h0
    · rw [h0] at hi; simp at hi
    · exact h0
  have hm := Nat.mod_lt i hpos
  rw [getElem!_pos zv.cells (i % zv.cells.size) hm]
  have h4 : zv.cells[i % zv.cells.size] ∈ zv.cells := Array.getElem_mem hm
  generalize zv.cells[i % zv.cells.size] = y at h4 ⊢
  rw [h2] at h4
  exact h3.ones _ (by simpa using h4)
theorem run_append_new (F : Fits P T) {t u ty e : Ty} {s x : Value} {base : Option Addr} {n cap m : Nat} {c1 c2 : List Value} {z : AV} (ht : T.d t = .slice e) (hu : T.d u = .str ∨ ∃ e', T.d u = .slice e')
    (hz : zero T e = some z) (hs : s = .slice base n cap) (hcap : cap < n + m) (hm : n + m < 2 ^ 61) (hb : (n + m) * T.bytes e ≤ 2 ^ 47)
    (hlen : ∀ w', w' = w ∨ w' = w.drew → (Builtin.lenOf x).run P w' = .ok m w') (h1 : (Builtin.firstCells (T.size e) n s).run P w.drew = .ok c1.toArray w.drew) (h2 : (Builtin.firstCells (T.size e) m x).run P w.drew = .ok c2.toArray w.drew) :
    ∃ (k : Nat) (ss : List Value), n + m ≤ k ∧ ss.length = (k - (n + m)) * T.size e ∧ (∀ c ∈ ss, c.oneCell' = true) ∧
      (Builtin.append_ #[t, u] ty #[s, x]).run P w = .ok (.slice (some ⟨w.heap.size, 0, none⟩) (n + m) k) (w.drew.alloc (.cells ((c1 ++ c2) ++ ss).toArray e)) := by
  subst hs
  obtain ⟨k, hk, hck⟩ := run_choose_cap (P := P) (n + m) cap e w
  obtain ⟨zv, ss, hzv, hss, hssl, hsso⟩ := zeroCells_ones F (⟨fun _ _ => none, fun _ => none, fun _ => .var 0, fun _ _ => none, fun _ _ => 0⟩ : Inj) hz (k - (n + m)) w.drew
  refine ⟨k, ss, hk, hssl, hsso, ?_⟩
  have hne := F.ok.sliceE _ _ ht
  have hut := F.und_slice ht
  obtain ⟨info, hinfo, -, hbytes⟩ := run_info F hne w
  obtain ⟨info', hinfo', -, hbytes'⟩ := run_info F hne w.drew
  have hnc := nextslicecap_le hcap
  have hb2 : ¬ (Builtin.nextslicecap (n + m) cap * T.bytes e > 2 ^ 48) := by
    have := Nat.mul_le_mul_right (T.bytes e) hnc
    rw [Nat.mul_assoc] at this
    omega
  have hmax : ¬ ((((n + m : Nat) : Int) > IntKind.i64.max) ∧ (False ∨ info.bytes = 0)) := by
    rintro ⟨h3, -⟩
    have : IntKind.i64.max = 9223372036854775807 := by decide
    rw [this] at h3
    omega
  rcases hu with hu | ⟨e', hu⟩
  · unfold Builtin.append_
    simp only [List.getElem?_toArray, List.getElem?_cons_zero, List.getElem?_cons_succ]
    rw [Sem.run_bind, run_und hut, Result.andThen_ok]
    simp only [Sem.run_bind, run_size F hne w, Result.andThen_ok, run_und (F.und_str hu), Sem.run_pure, Bool.false_eq_true, if_false]
    rw [hlen w (.inl rfl), Result.andThen_ok]
    rw [if_neg (by omega)]
    simp only [Sem.run_bind, hinfo, Result.andThen_ok]
    rw [if_neg hmax]
    simp only [Sem.run_bind, hinfo, Result.andThen_ok]
    rw [hbytes, if_neg hb2]
    simp only [Sem.run_bind, hck, Result.andThen_ok, hinfo', run_askRoom, h1, Bool.not_false, if_true, h2, hzv, Sem.run_pure, newRow, newObj, Sem.run]
    simp only [hss, List.append_toArray]
    rfl
  · unfold Builtin.append_
    simp only [List.getElem?_toArray, List.getElem?_cons_zero, List.getElem?_cons_succ]
    rw [Sem.run_bind, run_und hut, Result.andThen_ok]
    simp only [Sem.run_bind, run_size F hne w, Result.andThen_ok, run_und (F.und_slice hu), Sem.run_pure, Bool.false_eq_true, if_false]
    rw [hlen w (.inl rfl), Result.andThen_ok]
    rw [if_neg (by omega)]
    simp only [Sem.run_bind, hinfo, Result.andThen_ok]
    rw [if_neg hmax]
    simp only [Sem.run_bind, hinfo, Result.andThen_ok]
    rw [hbytes, if_neg hb2]
    simp only [Sem.run_bind, hck, Result.andThen_ok, hinfo', run_askRoom, h1, Bool.not_false, if_true, h2, hzv, Sem.run_pure, newRow, newObj, Sem.run]
    simp only [hss, List.append_toArray]
    rfl
theorem run_append_in (F : Fits P T) {t u ty e : Ty} {x : Value} {b o n cap m : Nat} {c2 : List Value} (ht : T.d t = .slice e) (hu : T.d u = .str ∨ ∃ e', T.d u = .slice e')
    (hcap : n + m ≤ cap) (hlen : (Builtin.lenOf x).run P w = .ok m w) (h2 : (Builtin.firstCells (T.size e) m x).run P w = .ok c2.toArray w)
    (hth : w.there b (o + n * T.size e) c2.length) (h1 : ∀ c ∈ c2, c.oneCell' = true) :
    (Builtin.append_ #[t, u] ty #[.slice (some ⟨b, o, none⟩) n cap, x]).run P w = .ok (.slice (some ⟨b, o, none⟩) (n + m) cap) (w.setCells b (o + n * T.size e) c2) := by
  have hne := F.ok.sliceE _ _ ht
  have hut := F.und_slice ht
  have hst := run_storeCells_cells (P := P) b (o + n * T.size e) c2 0 w (fun j hj => by simpa using (hth j hj).1) (fun j hj => by simpa using (hth j hj).2) h1
  simp only [Nat.add_zero] at hst
  have tail : ∀ {D : TypeDesc}, (underlying u).run P w = .ok D w → (D = .string ∨ ∃ e', D = .slice e') →
      (Builtin.append_ #[t, u] ty #[.slice (some ⟨b, o, none⟩) n cap, x]).run P w = .ok (.slice (some ⟨b, o, none⟩) (n + m) cap) (w.setCells b (o + n * T.size e) c2) := by
    intro D hD hDD
    rcases hDD with rfl | ⟨e', rfl⟩
    · unfold Builtin.append_
      simp only [List.getElem?_toArray, List.getElem?_cons_zero, List.getElem?_cons_succ]
      rw [Sem.run_bind, run_und hut, Result.andThen_ok]
      simp only [Sem.run_bind, run_size F hne w, Result.andThen_ok, hD, Sem.run_pure, Bool.false_eq_true, if_false]
      rw [hlen, Result.andThen_ok]
      rw [if_pos hcap]
      simp only [Sem.run_bind, Bool.not_false, if_true, h2, Result.andThen_ok, add_eq, hst, Sem.run_pure]
    · unfold Builtin.append_
      simp only [List.getElem?_toArray, List.getElem?_cons_zero, List.getElem?_cons_succ]
      rw [Sem.run_bind, run_und hut, Result.andThen_ok]
      simp only [Sem.run_bind, run_size F hne w, Result.andThen_ok, hD, Sem.run_pure, Bool.false_eq_true, if_false]
      rw [hlen, Result.andThen_ok]
      rw [if_pos hcap]
      simp only [Sem.run_bind, Bool.not_false, if_true, h2, Result.andThen_ok, add_eq, hst, Sem.run_pure]
  rcases hu with hu | ⟨e', hu⟩
  · exact tail (run_und (F.und_str hu) w) (.inl rfl)
  · exact tail (run_und (F.und_slice hu) w) (.inr ⟨e', rfl⟩)
theorem run_append_e0 (F : Fits P T) {t u ty e : Ty} {x : Value} {ad : Addr} (ht : T.d t = .slice e) (hu : T.d u = .str ∨ ∃ e', T.d u = .slice e')
    (hlen : (Builtin.lenOf x).run P w = .ok 0 w) (h2 : (Builtin.firstCells (T.size e) 0 x).run P w = .ok #[] w) :
    (Builtin.append_ #[t, u] ty #[.slice (some ad) 0 0, x]).run P w = .ok (.slice (some ad) 0 0) w := by
  have hne := F.ok.sliceE _ _ ht
  have hut := F.und_slice ht
  have tail : ∀ {D : TypeDesc}, (underlying u).run P w = .ok D w → (D = .string ∨ ∃ e', D = .slice e') →
      (Builtin.append_ #[t, u] ty #[.slice (some ad) 0 0, x]).run P w = .ok (.slice (some ad) 0 0) w := by
    intro D hD hDD
    rcases hDD with rfl | ⟨e', rfl⟩
    · unfold Builtin.append_
      simp only [List.getElem?_toArray, List.getElem?_cons_zero, List.getElem?_cons_succ]
      rw [Sem.run_bind, run_und hut, Result.andThen_ok]
      simp only [Sem.run_bind, run_size F hne w, Result.andThen_ok, hD, Sem.run_pure, Bool.false_eq_true, if_false]
      rw [hlen, Result.andThen_ok]
      rw [if_pos (Nat.le_refl 0)]
      simp only [Sem.run_bind, Bool.not_false, if_true, h2, Result.andThen_ok]
      rfl
    · unfold Builtin.append_
      simp only [List.getElem?_toArray, List.getElem?_cons_zero, List.getElem?_cons_succ]
      rw [Sem.run_bind, run_und hut, Result.andThen_ok]
      simp only [Sem.run_bind, run_size F hne w, Result.andThen_ok, hD, Sem.run_pure, Bool.false_eq_true, if_false]
      rw [hlen, Result.andThen_ok]
      rw [if_pos (Nat.le_refl 0)]
      simp only [Sem.run_bind, Bool.not_false, if_true, h2, Result.andThen_ok]
      rfl
  rcases hu with hu | ⟨e', hu⟩
  · exact tail (run_und (F.und_str hu) w) (.inl rfl)
  · exact tail (run_und (F.und_slice hu) w) (.inr ⟨e', rfl⟩)
theorem run_append_nil0 (F : Fits P T) {t u ty e : Ty} {x : Value} (ht : T.d t = .slice e) (hu : T.d u = .str ∨ ∃ e', T.d u = .slice e')
    (hlen : (Builtin.lenOf x).run P w = .ok 0 w) (h2 : (Builtin.firstCells (T.size e) 0 x).run P w = .ok #[] w) :
    (Builtin.append_ #[t, u] ty #[.slice none 0 0, x]).run P w = .ok (.slice none 0 0) w := by
  have hne := F.ok.sliceE _ _ ht
  have hut := F.und_slice ht
  have tail : ∀ {D : TypeDesc}, (underlying u).run P w = .ok D w → (D = .string ∨ ∃ e', D = .slice e') →
      (Builtin.append_ #[t, u] ty #[.slice none 0 0, x]).run P w = .ok (.slice none 0 0) w := by
    intro D hD hDD
    rcases hDD with rfl | ⟨e', rfl⟩
    · unfold Builtin.append_
      simp only [List.getElem?_toArray, List.getElem?_cons_zero, List.getElem?_cons_succ]
      rw [Sem.run_bind, run_und hut, Result.andThen_ok]
      simp only [Sem.run_bind, run_size F hne w, Result.andThen_ok, hD, Sem.run_pure, Bool.false_eq_true, if_false]
      rw [hlen, Result.andThen_ok]
      rw [if_pos (by omega)]
      simp only [Sem.run_bind, Bool.not_false, if_true, h2, Result.andThen_ok, Sem.run_pure]
    · unfold Builtin.append_
      simp only [List.getElem?_toArray, List.getElem?_cons_zero, List.getElem?_cons_succ]
      rw [Sem.run_bind, run_und hut, Result.andThen_ok]
      simp only [Sem.run_bind, run_size F hne w, Result.andThen_ok, hD, Sem.run_pure, Bool.false_eq_true, if_false]
      rw [hlen, Result.andThen_ok]
      rw [if_pos (by omega)]
      simp only [Sem.run_bind, Bool.not_false, if_true, h2, Result.andThen_ok, Sem.run_pure]
  rcases hu with hu | ⟨e', hu⟩
  · exact tail (run_und (F.und_str hu) w) (.inl rfl)
  · exact tail (run_und (F.und_slice hu) w) (.inr ⟨e', rfl⟩)
theorem aAppend_sound (F : Fits P T) (R : Rel T B w0 J h w) {t u ty e : Ty} {mu : Bool} {s v x : AV} {new : List AV} {a c : Value} {h' : Heap} (ht : T.d t = .slice e) (hu : T.d u = .str ∨ ∃ e', T.d u = .slice e')
    (hsrc : srcElems T e h x = some new) (ha : aAppend T e mu s new h = some (v, h')) (hs : VR T J s a) (hx : VR T J x c) :
    ∃ J' w' r, J.Le J' ∧ (Builtin.append_ #[t, u] ty #[a, c]).run P w = .ok r w' ∧ VR T J' v r ∧ Rel T B w0 J' h' w' := by
  obtain ⟨hlen, c2, hf2, hfc⟩ := srcElems_sound (P := P) F R hsrc hx
  have hne := F.ok.sliceE _ _ ht
  have hl2 := hf2.length F.ok
  rw [F.ok.undSize] at hl2
  have hall := hfc new.length (Nat.le_refl _)
  rw [List.take_of_length_le (by omega)] at hall
  -- the same cells behind a draw
  have halld : (Builtin.firstCells (T.size e) new.length c).run P w.drew = .ok c2.toArray w.drew := by
    obtain ⟨-, c2', hf2', hfc'⟩ := srcElems_sound (P := P) F R.drew hsrc hx
    have h1 := hfc' new.length (Nat.le_refl _)
    have hl2' := hf2'.length F.ok
    rw [F.ok.undSize] at hl2'
    rw [List.take_of_length_le (by omega)] at h1
    rw [h1]
    have hdr : ∀ (q : Sem (Array Value)) (y : Array Value), q = Builtin.firstCells (T.size e) new.length c → q.run P w = .ok c2.toArray w → q.run P w.drew = .ok y w.drew → y = c2.toArray := by
      intro q y hq h3 h4
      subst hq
      unfold Builtin.firstCells at h3 h4
      split at h3
      · rename_i ad _ _
        have key : ∀ (n i : Nat) (acc y1 y2 : Array Value), (loadCellsFrom ad i n acc).run P w = .ok y1 w → (loadCellsFrom ad i n acc).run P w.drew = .ok y2 w.drew → y2 = y1 := by
          intro n
          induction n with
          | zero =>
            intro i acc y1 y2 h5 h6
            simp only [loadCellsFrom, Sem.run_pure, Result.ok.injEq] at h5 h6
            rw [← h5.1, ← h6.1]
          | succ n ih =>
            intro i acc y1 y2 h5 h6
            simp only [loadCellsFrom, Sem.run_bind, run_load] at h5 h6
            have hcell : w.drew.cell? (ad.add i) = w.cell? (ad.add i) := rfl
            rw [hcell] at h6
            cases hv : w.cell? (ad.add i) with
            | some v0 =>
              simp only [hv, Result.andThen_ok] at h5 h6
              exact ih _ _ _ _ h5 h6
            | none =>
              simp only [hv] at h5 h6
              have hfar : World.farLoad P w.drew (ad.add i) (Mode.plain == Mode.atomic) = World.farLoad P w (ad.add i) (Mode.plain == Mode.atomic) := rfl
              rw [hfar] at h6
              cases hv2 : World.farLoad P w (ad.add i) (Mode.plain == Mode.atomic) with
              | ok z0 =>
                obtain ⟨v0, l0⟩ := z0
                simp only [hv2, Result.andThen_ok] at h5 h6
                exact ih _ _ _ _ h5 h6
              | error e0 => simp [hv2] at h5
        exact key _ _ _ _ _ h3 h4
      · simp only [Sem.run_pure, Result.ok.injEq] at h3 h4; rw [← h3.1, ← h4.1]
      · simp only [Sem.run_pure, Result.ok.injEq] at h3 h4; rw [← h3.1, ← h4.1]
      · simp [stuck] at h3
    have := hdr _ _ rfl hall h1
    rw [this]
  have hlen2 : ∀ w', w' = w ∨ w' = w.drew → (Builtin.lenOf c).run P w' = .ok new.length w' := by
    rintro w' (rfl | rfl)
    · exact hlen
    · exact (srcElems_sound (P := P) F R.drew hsrc hx).1
  have hf2' := FlE.conv F.ok (F.ok.undUnd e) hf2
  unfold aAppend at ha
  split at ha
  · -- nothing is appended
    have hc2 : c2 = [] := List.eq_nil_of_length_eq_zero (by rw [hl2]; simp)
    subst hc2
    split at ha
    · simp only [Option.some.injEq, Prod.mk.injEq] at ha
      obtain ⟨rfl, rfl⟩ := ha
      obtain rfl := hs.nils_inv
      exact ⟨J, w, _, Inj.Le.refl _, run_append_nil0 F ht hu hlen hall, .cell .nils, R⟩
    · simp only [Option.some.injEq, Prod.mk.injEq] at ha
      obtain ⟨rfl, rfl⟩ := ha
      rcases hs.vsl_inv with ⟨b, o, cs, n, h1, h2, h3, rfl⟩ | ⟨rfl, ad, rfl⟩
      case inr => exact ⟨J, w, _, Inj.Le.refl _, run_append_e0 F ht hu hlen hall, hs, R⟩
      exact ⟨J, _, _, Inj.Le.refl _, run_append_in F ht hu (by simp) hlen hall (fun j hj => by simp at hj) (fun c hc => by simp at hc), hs, R⟩
    · cases ha
  · rename_i a1 new1
    generalize hnew : a1 :: new1 = new at *
    have hpos : 0 < new.length := by rw [← hnew]; simp
    clear hnew
    split at ha
    · -- onto nil
      obtain rfl := hs.nils_inv
      by_cases hb : new.length * T.bytes e ≤ 2 ^ 47 ∧ new.length < 2 ^ 61 ∧ (zero T e).isSome = true
      case neg => simp [hb] at ha
      rw [if_pos hb] at ha
      obtain ⟨hb1, hb2, hb3⟩ := hb
      obtain ⟨z, hz⟩ := Option.isSome_iff_exists.1 hb3
      have hn0 : (Builtin.firstCells (T.size e) 0 (.slice none 0 0)).run P w.drew = .ok (List.toArray []) w.drew := rfl
      obtain ⟨k, ss, hk, hss, hso, hrun⟩ := run_append_new (ty := ty) F ht hu hz rfl (by omega) (by omega) (by simpa using hb1) hlen2 hn0 halld
      simp only [List.nil_append, Nat.zero_add] at hrun hk hss
      cases mu with
      | true =>
        simp only [if_true, Option.some.injEq, Prod.mk.injEq] at ha
        obtain ⟨rfl, rfl⟩ := ha
        have hobj : ObjC T J (.row (T.und e) new) (.row (T.und e) k) (c2 ++ ss) := .row hf2 hk (by rw [List.length_append, hl2, hss, F.ok.undSize, ← Nat.add_mul]; congr 1; omega) hso
        obtain ⟨J', hle, hloc, hsh, R'⟩ := R.drew.new e hobj
        refine ⟨J', _, _, hle, hrun, .cell ?_, R'⟩
        have := Cell.msl (T := T) (J := J') (r := h.length) (p := []) (e := T.und e) (off := 0) (len := new.length) (cap := k) (ro := 0) hloc (by rw [hsh]; simp [Tab.rowAt]) hk hpos
        simpa using this
      | false =>
        simp only [Bool.false_eq_true, if_false, Option.some.injEq, Prod.mk.injEq] at ha
        obtain ⟨rfl, rfl⟩ := ha
        obtain ⟨hle, him, htl, R'⟩ := R.drew.newTok c2 ss e (0, 0) (.inr rfl)
        refine ⟨_, _, _, hle, hrun, .cell ?_, R'⟩
        have := Cell.vsl (T := T) (k := .own h.length 0) (n := k - new.length) (hf2.le hle) him (.inr (by rw [F.ok.undSize, ← hss, Nat.zero_add]; exact htl))
        rw [Nat.add_sub_cancel' hk] at this
        exact this
    · -- onto memory that never changes
      rename_i e' l k
      obtain ⟨b, o, sp, cs, n, hsp, hfl, him, htok, rfl⟩ : ∃ b o sp cs n, (sp = none ∨ l = [] ∧ n = 0) ∧ FlE T J e' l cs ∧ J.imms b o cs ∧ TokR J k b (o + cs.length) (n * T.size e') ∧ a = .slice (some ⟨b, o, sp⟩) l.length (l.length + n) := by
        rcases hs.vsl_inv with ⟨b, o, cs, n, hfl, him, htok, rfl⟩ | ⟨rfl, ⟨b, o, sp⟩, rfl⟩
        · exact ⟨b, o, none, cs, n, .inl rfl, hfl, him, htok, rfl⟩
        · refine ⟨b, o, sp, [], 0, .inr ⟨rfl, rfl⟩, .nil, fun i v hv => by simp at hv, ?_, rfl⟩
          cases k <;> simp [TokR]
      by_cases hb : e' = T.und e ∧ (l.length + new.length) * T.bytes e ≤ 2 ^ 47 ∧ l.length + new.length < 2 ^ 61 ∧ 0 < T.size e ∧ (zero T e).isSome = true
      case neg => simp [hb] at ha
      rw [if_pos hb] at ha
      obtain ⟨rfl, hb1, hb2, hb4, hb3⟩ := hb
      obtain ⟨z, hz⟩ := Option.isSome_iff_exists.1 hb3
      have hcl := hfl.length F.ok
      rw [F.ok.undSize] at hcl
      rw [F.ok.undSize] at htok
      have hold : (Builtin.firstCells (T.size e) l.length (.slice (some ⟨b, o, sp⟩) l.length (l.length + n))).run P w.drew = .ok cs.toArray w.drew := by
        rcases hsp with rfl | ⟨rfl, rfl⟩
        case inr =>
          have hcs : cs = [] := List.eq_nil_of_length_eq_zero (by rw [hcl]; simp)
          subst hcs
          simp [Builtin.firstCells]
          rfl
        have := rangeAt_loadCells (P := P) (Inj.imms_rangeAt R.drew him) (l.length * T.size e) (by omega)
        rw [List.take_of_length_le (by omega)] at this
        exact this
      have hf12 := hfl.append hf2
      -- where there is no room
      have fresh : n < new.length → ∃ k' ss, l.length + new.length ≤ k' ∧ ss.length = (k' - (l.length + new.length)) * T.size e ∧ (∀ c ∈ ss, c.oneCell' = true) ∧
          (Builtin.append_ #[t, u] ty #[.slice (some ⟨b, o, sp⟩) l.length (l.length + n), c]).run P w = .ok (.slice (some ⟨w.heap.size, 0, none⟩) (l.length + new.length) k') (w.drew.alloc (.cells ((cs ++ c2) ++ ss).toArray e)) :=
        fun hn => run_append_new (ty := ty) F ht hu hz rfl (by omega) hb2 hb1 hlen2 hold halld
      split at ha
      · -- no spare room at all
        have hn0 : n = 0 := by
          simp only [TokR] at htok
          rcases Nat.mul_eq_zero.1 htok with h0 | h0
          · exact h0
          · omega
        subst hn0
        obtain ⟨k', ss, hk, hss, hso, hrun⟩ := fresh hpos
        cases mu with
        | true =>
          simp only [if_true, Option.some.injEq, Prod.mk.injEq] at ha
          obtain ⟨rfl, rfl⟩ := ha
          have hobj : ObjC T J (.row (T.und e) (l ++ new)) (.row (T.und e) k') ((cs ++ c2) ++ ss) := .row hf12 (by simpa using hk) (by rw [List.length_append, List.length_append, hl2, hcl, hss, F.ok.undSize, ← Nat.add_mul, ← Nat.add_mul]; congr 1; omega) hso
          obtain ⟨J', hle, hloc, hsh, R'⟩ := R.drew.new e hobj
          refine ⟨J', _, _, hle, hrun, .cell ?_, R'⟩
          have := Cell.msl (T := T) (J := J') (r := h.length) (p := []) (e := T.und e) (off := 0) (len := l.length + new.length) (cap := k') (ro := 0) hloc (by rw [hsh]; simp [Tab.rowAt]) hk (by omega)
          simpa using this
        | false =>
          simp only [Bool.false_eq_true, if_false, Option.some.injEq, Prod.mk.injEq] at ha
          obtain ⟨rfl, rfl⟩ := ha
          obtain ⟨hle, him', htl, R'⟩ := R.drew.newTok (cs ++ c2) ss e (0, 0) (.inr rfl)
          refine ⟨_, _, _, hle, hrun, .cell ?_, R'⟩
          have := Cell.vsl (T := T) (k := .own h.length 0) (n := k' - (l.length + new.length)) (hf12.le hle) him' (.inr (by rw [F.ok.undSize, ← hss, Nat.zero_add]; exact htl))
          rw [List.length_append, Nat.add_sub_cancel' hk] at this
          exact this
      · -- its own spare room
        rename_i r g
        split at ha
        · rename_i g' hr
          by_cases hg : g' = g
          case neg => simp [hg] at ha
          subst hg
          simp only [if_true, Option.some.injEq, Prod.mk.injEq] at ha
          obtain ⟨rfl, rfl⟩ := ha
          rcases Nat.lt_or_ge n new.length with hn | hn
          · obtain ⟨k', ss, hk, hss, hso, hrun⟩ := fresh hn
            obtain ⟨hle, him', htl, R'⟩ := R.drew.moveTok hr (cs ++ c2) ss e
            refine ⟨_, _, _, hle, hrun, .cell ?_, R'⟩
            have := Cell.vsl (T := T) (k := .own r (g' + 1)) (n := k' - (l.length + new.length)) (hf12.le hle) him' (.inr (by rw [F.ok.undSize, ← hss, Nat.zero_add]; exact htl))
            rw [List.length_append, Nat.add_sub_cancel' hk] at this
            exact this
          · obtain rfl : sp = none := by
              rcases hsp with h0 | ⟨-, h0⟩
              · exact h0
              · omega
            have htl : J.tloc r g' = some (b, o + cs.length, n * T.size e) := by
              simp only [TokR] at htok
              rcases htok with h0 | h0
              · exfalso
                rcases Nat.mul_eq_zero.1 h0 with h1 | h1 <;> omega
              · exact h0
            have hle2 : new.length * T.size e ≤ n * T.size e := Nat.mul_le_mul_right _ hn
            obtain ⟨hle, him', htl', R', hth⟩ := R.grow (ss := List.replicate (n * T.size e) .nilFunc) (cs := c2) hr (by simpa using htl) (by simpa [hl2] using hle2)
            have hrun := run_append_in (ty := ty) (x := c) F ht hu (b := b) (o := o) (n := l.length) (cap := l.length + n) (m := new.length) (by omega) hlen hall (by rw [← hcl]; exact hth) hf2.ones
            rw [← hcl] at hrun
            refine ⟨_, _, _, hle, hrun, .cell ?_, R'⟩
            have := Cell.vsl (T := T) (b := b) (o := o) (k := .own r (g' + 1)) (n := n - new.length) (hf12.le hle) (Inj.imms_append.2 ⟨Inj.imms_le hle him, him'⟩) (.inr (by
              rw [F.ok.undSize, List.length_append, ← Nat.add_assoc, htl']
              simp only [List.length_replicate, hl2, Nat.sub_mul]))
            rw [List.length_append] at this
            rwa [show l.length + new.length + (n - new.length) = l.length + n by omega] at this
        · cases ha
      · cases ha
    · -- onto a row that may turn
      rename_i r e' len
      split at ha
      case h_2 => cases ha
      rename_i e'' l hr
      by_cases hb : (e'' = T.und e ∧ e' = T.und e ∧ l.length = len) ∧ (len + new.length) * T.bytes e ≤ 2 ^ 47 ∧ len + new.length < 2 ^ 61 ∧ 0 < T.size e ∧ (zero T e).isSome = true
      case neg => rw [if_neg hb] at ha; cases ha
      rw [if_pos hb] at ha
      obtain ⟨⟨rfl, rfl, rfl⟩, hb1, hb2, hb4, hb3⟩ := hb
      obtain ⟨z, hz⟩ := Option.isSome_iff_exists.1 hb3
      simp only [Option.some.injEq, Prod.mk.injEq] at ha
      obtain ⟨rfl, rfl⟩ := ha
      obtain ⟨b, o, ro, cap, hloc, hra, hlc, hl0, rfl⟩ := hs.msl_inv
      have hrl : r < h.length := (List.getElem?_eq_some_iff.1 hr).1
      obtain ⟨cs, ss, total, hsh, hfl, hlt, htot, hones, hh⟩ : ∃ cs ss total, J.shape r = .row (T.und e) total ∧ FlE T J (T.und e) l cs ∧ l.length ≤ total ∧ (cs ++ ss).length = total * T.size (T.und e) ∧
          (∀ c ∈ ss, c.oneCell' = true) ∧ has w J r b o (cs ++ ss) := by
        cases R.objs r _ hr with
        | obj a c d =>
          rw [hloc] at a
          cases a
          generalize J.shape r = sh at c
          cases c with
          | row h1 h2 h3 h4 => exact ⟨_, _, _, rfl, h1, h2, h3, h4, d⟩
      rw [hsh] at hra
      simp only [Tab.rowAt, if_true, Option.some.injEq, Prod.mk.injEq, Nat.zero_add] at hra
      obtain ⟨rfl, rfl⟩ := hra
      have hcl := hfl.length F.ok
      rw [F.ok.undSize] at hcl htot
      have hsl := htot
      rw [List.length_append, hcl] at hsl
      simp only [Nat.zero_mul, Nat.add_zero] at hs ⊢
      have hf12 := hfl.append hf2
      rcases Nat.lt_or_ge total (l.length + new.length) with hn | hn
      · have hold : (Builtin.firstCells (T.size e) l.length (.slice (some ⟨b, o, none⟩) l.length total)).run P w.drew = .ok cs.toArray w.drew := by
          have hh1 : has w J r b o cs := (has.append.1 hh).1
          have := rangeAt_loadCells (P := P) (w := w.drew) hh1.rangeAt (l.length * T.size e) (by omega)
          rw [List.take_of_length_le (by omega)] at this
          exact this
        obtain ⟨k', ss', hk, hss, hso, hrun⟩ := run_append_new (ty := ty) F ht hu hz rfl hn hb2 hb1 hlen2 hold halld
        have hobj : ObjC T J (.row (T.und e) (l ++ new)) (.row (T.und e) k') ((cs ++ c2) ++ ss') := .row hf12 (by simpa using hk) (by rw [List.length_append, List.length_append, hl2, hcl, hss, F.ok.undSize, ← Nat.add_mul, ← Nat.add_mul]; congr 1; omega) hso
        obtain ⟨J', hle, hloc', hsh', R'⟩ := R.drew.new e hobj
        have R2 := R'.drop (r := r)
        rw [List.set_append_left _ _ hrl] at R2
        refine ⟨J', _, _, hle, hrun, .cell ?_, R2⟩
        have := Cell.msl (T := T) (J := J') (r := h.length) (p := []) (e := T.und e) (off := 0) (len := l.length + new.length) (cap := k') (ro := 0) hloc' (by rw [hsh']; simp [Tab.rowAt]) hk (by omega)
        simpa using this
      · have hcs : c2.length ≤ ss.length := by
          have : (l.length + new.length) * T.size e ≤ total * T.size e := Nat.mul_le_mul_right _ hn
          rw [Nat.add_mul] at this
          omega
        have hsp : ss = ss.take c2.length ++ ss.drop c2.length := (List.take_append_drop _ _).symm
        have hth : w.there b (o + l.length * T.size e) c2.length := by
          intro j hj
          have := hh.there (cs.length + j) (by rw [List.length_append]; omega)
          rwa [hcl, ← Nat.add_assoc] at this
        have hrun := run_append_in (ty := ty) (x := c) F ht hu (b := b) (o := o) (n := l.length) (cap := total) (m := new.length) hn hlen hall hth hf2.ones
        have hnew' : ObjC T J (.row (T.und e) (l ++ new)) (J.shape r) (cs ++ (c2 ++ ss.drop c2.length)) := by
          rw [hsh, ← List.append_assoc]
          refine .row hf12 (by simpa using hn) ?_ fun c hc => hones c (List.mem_of_mem_drop hc)
          rw [F.ok.undSize, ← htot]
          simp only [List.length_append, List.length_drop]
          omega
        have R1 := R.put (c1 := cs) (c2 := ss.take c2.length) (c2' := c2) (c3 := ss.drop c2.length) (ob' := .row (T.und e) (l ++ new)) hr hloc (by rw [← hsp]; exact hh) (by simp; omega) hnew'
        obtain ⟨hle, R2⟩ := R1.rename (r := r) (ob := .row (T.und e) (l ++ new)) (by simp [hrl]) hloc ⟨by simp, by simp⟩
        simp only [List.length_set, List.set_set] at hle R2
        rw [hcl] at R2
        refine ⟨_, _, _, hle, hrun, .cell ?_, R2⟩
        have := Cell.msl (T := T) (J := J.renamed r h.length b o (J.shape r)) (r := h.length) (p := []) (e := T.und e) (off := 0) (len := l.length + new.length) (cap := total) (ro := 0) (b := b) (o := o)
          (by simp [Inj.renamed]) (by simp only [Inj.renamed, if_true, hsh]; simp [Tab.rowAt]) hn (by omega)
        simpa using this
    · cases ha
end
end Go.Ax

namespace Go.Ax
open Go Go.RowKit
section
variable {P : Program} {T : Tab} {J : Inj} {B : Nat} {w0 w : World} {h : Heap}
theorem run_copy (F : Fits P T) {t u ty e : Ty} {x : Value} {b o n cap m k : Nat} {c2 : List Value} (ht : T.d t = .slice e) (hk : k = min m n)
    (hlen : (Builtin.lenOf x).run P w = .ok m w) (h2 : (Builtin.firstCells (T.size e) k x).run P w = .ok c2.toArray w)
    (hth : w.there b o c2.length) (h1 : ∀ c ∈ c2, c.oneCell' = true) :
    (Builtin.copy_ #[t, u] ty #[.slice (some ⟨b, o, none⟩) n cap, x]).run P w = .ok (.int .i64 k) (w.setCells b o c2) := by
  have hne := F.ok.sliceE _ _ ht
  have hut := F.und_slice ht
  have hst := run_storeCells_cells (P := P) b o c2 0 w (fun j hj => by simpa using (hth j hj).1) (fun j hj => by simpa using (hth j hj).2) h1
  simp only [Nat.add_zero] at hst
  unfold Builtin.copy_
  simp only [List.getElem?_toArray, List.getElem?_cons_zero, List.getElem?_cons_succ]
  rw [Sem.run_bind, run_und hut, Result.andThen_ok]
  simp only [Sem.run_bind, hlen, Result.andThen_ok, run_size F hne w]
  have hkk : Nat.min m n = k := hk.symm
  rw [hkk, h2, Result.andThen_ok]
  simp only [hst, Result.andThen_ok, Sem.run_pure]
  rfl
theorem aCopy_sound (F : Fits P T) (R : Rel T B w0 J h w) {t u ty e : Ty} {d v x : AV} {src : List AV} {a c : Value} {h' : Heap} (ht : T.d t = .slice e)
    (hde : ∃ r p off len, d = .msl r p (T.und e) off len) (hsrc : srcElems T e h x = some src) (ha : aCopy h d src = some (v, h')) (hd : VR T J d a) (hx : VR T J x c) :
    ∃ w' r, (Builtin.copy_ #[t, u] ty #[a, c]).run P w = .ok r w' ∧ VR T J v r ∧ Rel T B w0 J h' w' := by
  obtain ⟨r, p, off, len, rfl⟩ := hde
  obtain ⟨hlen, c2, hf2, hfc⟩ := srcElems_sound (P := P) F R hsrc hx
  have hl2 := hf2.length F.ok
  rw [F.ok.undSize] at hl2
  obtain ⟨b, o, ro, cap, hloc, hrow, hlc, hl0, rfl⟩ := hd.msl_inv
  simp only [aCopy] at ha
  cases hr : h[r]? with
  | none => simp [hr] at ha
  | some ob =>
    simp only [hr] at ha
    cases hg : rowGet ob p with
    | none => simp [hg] at ha
    | some l =>
      simp only [hg] at ha
      by_cases hle : off + len ≤ l.length
      case neg => simp [hle] at ha
      simp only [hle, if_true] at ha
      have hk := rowGet_kinds hg
      obtain ⟨cs, hc, hh⟩ := R.obj hr hloc hk.1 hk.2
      obtain ⟨c1, cm, c3, rfl, hl1, hf, hln, hset⟩ := hc.rowPart F.ok hrow hg
      generalize hn : min src.length len = n at ha
      have hnl : n ≤ len := by omega
      have hns : n ≤ src.length := by omega
      obtain ⟨d1, d2, d3, rfl, hld1, hfd2, hld3⟩ := hf.drop_take F.ok (a := off) (b := off + n) (by omega) (by omega)
      -- the elements that are copied
      have hsplit : src = src.take n ++ src.drop n := (List.take_append_drop n src).symm
      have hf2' := hf2
      rw [hsplit] at hf2'
      obtain ⟨e1, e2, rfl, he1, he2⟩ := hf2'.split
      have hle1 : e1.length = n * T.size e := by rw [he1.length F.ok, F.ok.undSize, List.length_take, Nat.min_eq_left hns]
      have htake : (e1 ++ e2).take (n * T.size e) = e1 := by rw [← hle1]; simp
      have hcells := hfc n hns
      rw [htake] at hcells
      have hd2l : d2.length = n * T.size e := by
        rw [hfd2.length F.ok, F.ok.undSize]
        congr 1
        simp; omega
      have hlsplit : l = l.take off ++ ((l.take (off + n)).drop off ++ l.drop (off + n)) := by
        have e3 : l.take (off + n) = l.take off ++ (l.take (off + n)).drop off := by
          have := (List.take_append_drop off (l.take (off + n))).symm
          rwa [List.take_take, Nat.min_eq_left (by omega)] at this
        rw [← List.append_assoc, ← e3, List.take_append_drop]
      have hfl3 : ∃ g1 g3, FlE T J (T.und e) (l.take off) g1 ∧ FlE T J (T.und e) (l.drop (off + n)) g3 ∧ d1 ++ (d2 ++ d3) = g1 ++ (d2 ++ g3) ∧ g1 = d1 ∧ g3 = d3 := by
        have hf' := hf
        rw [hlsplit] at hf'
        obtain ⟨g1, g23, hg, hg1, hg23⟩ := hf'.split
        obtain ⟨g2, g3, rfl, hg2, hg3⟩ := hg23.split
        have hg1l : g1.length = d1.length := by rw [hg1.length F.ok, hld1, List.length_take, Nat.min_eq_left (by omega)]
        have h12 := List.append_inj hg hg1l.symm
        have hg2l : g2.length = d2.length := by rw [hg2.length F.ok, hfd2.length F.ok]
        have h23 := List.append_inj h12.2 hg2l.symm
        exact ⟨g1, g3, hg1, hg3, by rw [h12.1, h23.2], h12.1.symm, h23.2.symm⟩
      obtain ⟨g1, g3, hg1, hg3, -, rfl, rfl⟩ := hfl3
      have hnew : FlE T J (T.und e) (l.take off ++ (src.take n ++ l.drop (off + n))) (g1 ++ (e1 ++ g3)) := hg1.append (he1.append hg3)
      obtain ⟨ob', hob', hc'⟩ := hset _ _ (by simp; omega) hnew
      rw [hob'] at ha
      simp only [Option.some.injEq, Prod.mk.injEq] at ha
      obtain ⟨rfl, rfl⟩ := ha
      have hput := R.put (c1 := c1 ++ g1) (c2 := d2) (c2' := e1) (c3 := g3 ++ c3) hr hloc (by simpa using hh) (by rw [hle1, hd2l]) (by simpa using hc')
      rw [List.length_append, hl1, hld1, F.ok.undSize, ← Nat.add_assoc] at hput
      have hth : w.there b (o + ro + off * T.size e) e1.length := by
        intro j hj
        have := hh.there (c1.length + (g1.length + j)) (by simp; omega)
        rw [hl1, hld1, F.ok.undSize] at this
        rwa [show o + ro + off * T.size e + j = o + (ro + (off * T.size e + j)) by omega]
      refine ⟨_, _, ?_, .cell (.int _ _), hput⟩
      rw [F.ok.undSize]
      exact run_copy (ty := ty) F ht hn.symm hlen hcells hth he1.ones
theorem run_copy0 (F : Fits P T) {t u ty e : Ty} {x : Value} {ad : Addr} {m : Nat} (ht : T.d t = .slice e)
    (hlen : (Builtin.lenOf x).run P w = .ok m w) (h2 : (Builtin.firstCells (T.size e) 0 x).run P w = .ok #[] w) :
    (Builtin.copy_ #[t, u] ty #[.slice (some ad) 0 0, x]).run P w = .ok (.int .i64 0) w := by
  have hne := F.ok.sliceE _ _ ht
  have hut := F.und_slice ht
  unfold Builtin.copy_
  simp only [List.getElem?_toArray, List.getElem?_cons_zero, List.getElem?_cons_succ]
  rw [Sem.run_bind, run_und hut, Result.andThen_ok]
  simp only [Sem.run_bind, hlen, Result.andThen_ok, run_size F hne w]
  have hkk : Nat.min m 0 = 0 := Nat.min_zero m
  rw [hkk, h2, Result.andThen_ok]
  rfl
theorem aCopy0_sound (F : Fits P T) (R : Rel T B w0 J h w) {t u ty e e' : Ty} {k : Tok} {x : AV} {src : List AV} {a c : Value} (ht : T.d t = .slice e)
    (hsrc : srcElems T e h x = some src) (hd : VR T J (.vsl e' [] k) a) (hx : VR T J x c) :
    (Builtin.copy_ #[t, u] ty #[a, c]).run P w = .ok (.int .i64 0) w := by
  obtain ⟨hlen, c2, hf2, hfc⟩ := srcElems_sound (P := P) F R hsrc hx
  have h2 := hfc 0 (Nat.zero_le _)
  rw [Nat.zero_mul, List.take_zero] at h2
  rcases hd.vsl_inv with ⟨b, o, cs, m, -, -, -, rfl⟩ | ⟨-, ad, rfl⟩
  case inr => exact run_copy0 F ht hlen h2
  exact run_copy (u := u) (ty := ty) (b := b) (o := o) (n := 0) (k := 0) (c2 := []) F ht (by omega) hlen h2 (fun j hj => by simp at hj) (fun c hc => by simp at hc)
theorem run_newVar (e : Ty) (x : Value) (w : World) : (do pure (.pointer (some (← newVar e x))) : Sem Value).run P w = .ok (.pointer (some ⟨w.heap.size, 0, none⟩)) (w.alloc (.cells x.cells e)) := rfl
theorem path_nil (T : Tab) (t : Ty) : T.pathS (.var t) [] = some (0, T.und t) := by simp [Tab.pathS, Tab.path]
theorem box_sound (F : Fits P T) (R : Rel T B w0 J h w) {t : Ty} {v : AV} {x : Value} (hf : fits T t v = true) (hx : VR T J v x) :
    ∃ J', J.Le J' ∧ VR T J' (.ref h.length [] (T.und t)) (.pointer (some ⟨w.heap.size, 0, none⟩)) ∧ Rel T B w0 J' (h ++ [.var t v]) (w.alloc (.cells x.cells t)) := by
  obtain ⟨cs, hfl, hcs⟩ := fits_fl F.ok hf hx
  obtain ⟨J', hle, hloc, hsh, R'⟩ := R.new t (.var (t := t) hfl)
  refine ⟨J', hle, .cell ?_, by rw [hcs]; exact R'⟩
  have := Cell.ref (T := T) (J := J') (p := []) hloc (by rw [hsh]; exact path_nil T t)
  simpa using this
theorem alloc_sound (F : Fits P T) (R : Rel T B w0 J h w) {t : Ty} {z : AV} (hz : zero T t = some z) :
    ∃ J' w' r, J.Le J' ∧ (Instr.alloc t true (.tuple #[])).run P w = .ok r w' ∧ VR T J' (.ref h.length [] (T.und t)) r ∧ Rel T B w0 J' (h ++ [.var t z]) w' := by
  obtain ⟨zv, cs, h1, h2, h3⟩ := run_zero F J hz w
  obtain ⟨J', hle, hloc, hsh, R'⟩ := R.new t (.var (t := t) h3)
  refine ⟨J', _, .pointer (some ⟨w.heap.size, 0, none⟩), hle, ?_, .cell ?_, R'⟩
  · unfold Instr.alloc
    rw [Sem.run_bind, h1, Result.andThen_ok]
    simp only [run_newVar, h2]
  · have := Cell.ref (T := T) (J := J') (p := []) hloc (by rw [hsh]; exact path_nil T t)
    simpa using this
theorem store_sound (F : Fits P T) (R : Rel T B w0 J h w) {t : Ty} {r : Nat} {p : List Nat} {x : AV} {a c : Value} {ob : Obj} (hf : fits T t x = true)
    (ho : (h[r]?).bind (objSet x · p) = some ob) (ha : VR T J (.ref r p (T.und t)) a) (hx : VR T J x c) :
    ∃ w', (Instr.storeAt t a c).run P w = .ok () w' ∧ Rel T B w0 J (h.set r ob) w' := by
  simp only [Option.bind_eq_some_iff] at ho
  obtain ⟨ob0, hr, hset⟩ := ho
  obtain ⟨b, o, off, hloc, hp, rfl⟩ := ha.ref_inv
  -- there is a part to be replaced
  have hget : ∃ y, objGet ob0 p = some y := by
    have setget : ∀ (p : List Nat) (v v' : AV), setP x v p = some v' → ∃ y, getP v p = some y := by
      intro p
      induction p with
      | nil => intro v v' _; exact ⟨v, by simp [getP]⟩
      | cons i p ih =>
        intro v v' h
        cases v <;> simp only [setP] at h <;> try (cases h; done)
        rename_i u fs
        cases hfi : fs[i]? with
        | none => simp [hfi] at h
        | some g =>
          simp only [hfi] at h
          cases hs : setP x g p with
          | none => simp [hs] at h
          | some g' => obtain ⟨y, hy⟩ := ih _ _ hs; exact ⟨y, by simp [getP, hfi, hy]⟩
    cases ob0 with
    | var t0 v0 =>
      simp only [objSet] at hset
      cases hs : setP x v0 p with
      | none => simp [hs] at hset
      | some v' => obtain ⟨y, hy⟩ := setget _ _ _ hs; exact ⟨y, by simp [objGet, hy]⟩
    | row e0 l0 =>
      cases p with
      | nil => simp [objSet] at hset
      | cons i0 p0 =>
        simp only [objSet] at hset
        cases hfi : l0[i0]? with
        | none => simp [hfi] at hset
        | some g =>
          simp only [hfi] at hset
          cases hs : setP x g p0 with
          | none => simp [hs] at hset
          | some v' => obtain ⟨y, hy⟩ := setget _ _ _ hs; exact ⟨y, by simp [objGet, hfi, hy]⟩
    | tok g => simp [objSet] at hset
    | dead => simp [objSet] at hset
  obtain ⟨y, hy⟩ := hget
  have hk := objGet_kinds hy
  obtain ⟨cs, hc, hh⟩ := R.obj hr hloc hk.1 hk.2
  obtain ⟨c1, c2, c3, rfl, hl1, hfl, hput⟩ := hc.part F.ok hp hy
  have hl2 := hfl.length F.ok
  rw [F.ok.undSize] at hl2
  obtain ⟨cs', hfl', hrun⟩ := run_storeAt_fl (b := b) (o := o + off) F hf hx (fun j hj => by
    have := hh.there (c1.length + j) (by simp; omega)
    rw [hl1] at this
    rwa [Nat.add_assoc])
  obtain ⟨ob', hob', hc'⟩ := hput _ _ (hfl'.und F.ok)
  rw [hset] at hob'
  cases hob'
  have := R.put hr hloc hh (by rw [hfl'.length F.ok, hl2]) hc'
  rw [hl1] at this
  exact ⟨_, hrun, this⟩
theorem run_makeSlice (F : Fits P T) {t e : Ty} {l c : Nat} {z : AV} (ht : T.d t = .slice e) (hlc : l ≤ c) (hb : c * T.bytes e ≤ 2 ^ 47) (hc : c < 2 ^ 62) (hz : zero T e = some z) (J : Inj) (w : World) :
    ∃ cs, FlE T J e (List.replicate c z) cs ∧ (Instr.makeSlice t (.int .i64 l) (.int .i64 c)).run P w = .ok (.slice (some ⟨w.heap.size, 0, none⟩) l c) (w.alloc (.cells cs.toArray e)) := by
  have hne := F.ok.sliceE _ _ ht
  have hu := F.und_slice ht
  obtain ⟨info, hinfo, -, hbytes⟩ := run_info F hne w
  obtain ⟨zv, zc, hzv, hzc, hzf⟩ := run_zero F J hz w
  refine ⟨_, FlE.replicate hzf c, ?_⟩
  have wr : ∀ n : Nat, n < 2 ^ 62 → IntKind.i64.wrap (n : Int) = n := by
    intro n hn
    exact IntWalk.i64_in _ (by omega)
  have hbz : ¬ (((T.bytes e : Nat) : Int) * (c : Int) > 2 ^ 48) := by
    have : ((T.bytes e * c : Nat) : Int) ≤ ((2 ^ 47 : Nat) : Int) := by exact_mod_cast (by rw [Nat.mul_comm]; exact hb)
    rw [Int.natCast_mul] at this
    omega
  unfold Instr.makeSlice
  rw [Sem.run_bind, run_und hu, Result.andThen_ok]
  simp only [Sem.run_bind, asInt, asIntOf, Sem.run_pure, Result.andThen_ok, hinfo, wr l (by omega), wr c hc, hbytes]
  have hcond : ((decide ((c : Int) < 0) || decide (((T.bytes e : Nat) : Int) * (c : Int) > 2 ^ 48)) || decide ((l : Int) < 0) || decide ((l : Int) > (c : Int))) = false := by
    simp only [Bool.or_eq_false_iff, decide_eq_false_iff_not]
    refine ⟨⟨⟨by omega, hbz⟩, by omega⟩, by omega⟩
  rw [hcond]
  simp only [Bool.false_eq_true, if_false, Sem.run_bind, run_askRoom, Result.andThen_ok, run_size F hne w, Int.toNat_natCast]
  by_cases h0 : c * T.size e = 0
  · simp only [h0, if_true, Sem.run_pure, Sem.run_bind, Result.andThen_ok]
    have := zeros_cells F.ok hzf c #[] (fun hn => absurd h0 hn)
    rw [h0] at this
    rw [this]
    rfl
  · simp only [h0, if_false, hzv, Sem.run_bind, Sem.run_pure, Result.andThen_ok]
    have := zeros_cells F.ok hzf c zv.cells (fun _ => hzc)
    rw [this]
    rfl
end
end Go.Ax

namespace Go.Ax
open Go Go.RowKit
section
variable {P : Program} {T : Tab} {J : Inj} {B : Nat} {w0 w : World} {h : Heap}
def Done (P : Program) (T : Tab) (B : Nat) (w0 : World) (J : Inj) (σ : Operand → Value) (o : Oper) (w : World) (v : AV) (h' : Heap) : Prop :=
  ∃ J' w' x, J.Le J' ∧ ((execOp σ o).run P w = .ok (.value x) w' ∨ ((execOp σ o).run P w = .ok .skip w' ∧ x = undef)) ∧ VR T J' v x ∧ Rel T B w0 J' h' w'
theorem toVs_sound : ∀ {l : List AV} {vs : List Value} {xs : List Value}, toVs l = some vs → VRL T J l xs → xs = vs
  | [], vs, xs, h, hr => by
    simp only [toVs, Option.some.injEq] at h
    subst h
    cases hr
    rfl
  | a :: l, vs, xs, h, hr => by
    cases hr with
    | cons h1 h2 =>
      simp only [toVs] at h
      cases hv : toV a with
      | none => simp [hv] at h
      | some v =>
        cases hl : toVs l with
        | none => simp [hv, hl] at h
        | some vs' =>
          simp only [hv, hl, Option.some.injEq] at h
          subst h
          rw [toVs_sound hl h2]
          congr 1
          cases a <;> simp only [toV, Option.some.injEq] at hv <;> try (cases hv; done)
          · subst hv; exact h1.int_inv
          · subst hv; exact h1.str_inv
theorem vrl_map {ρ : Operand → AV} {σ : Operand → Value} (hρ : ∀ x, VR T J (ρ x) (σ x)) : ∀ (l : List Operand), VRL T J (l.map ρ) (l.map σ)
  | [] => .nil
  | _ :: l => .cons (hρ _) (vrl_map hρ l)
theorem Done.same (R : Rel T B w0 J h w) {σ : Operand → Value} {o : Oper} {v : AV} {x : Value} (hr : (execOp σ o).run P w = .ok (.value x) w) (hv : VR T J v x) : Done P T B w0 J σ o w v h :=
  ⟨J, w, x, Inj.Le.refl _, .inl hr, hv, R⟩
theorem exPure_sound (F : Fits P T) (R : Rel T B w0 J h w) {ρ : Operand → AV} {σ : Operand → Value} (hρ : ∀ x, VR T J (ρ x) (σ x)) {o : Oper} {v : AV} (hv : exPure T ρ o = some v) :
    Done P T B w0 J σ o w v h := by
  obtain ⟨dst, op, ty, pos, after, guard⟩ := o
  unfold exPure at hv
  split at hv
  · rename_i x hop
    simp only at hop; subst hop
    simp only [Option.some.injEq] at hv; subst hv
    exact .same R rfl (hρ _)
  · rename_i x hop
    simp only at hop; subst hop
    simp only [Option.some.injEq] at hv; subst hv
    exact .same R rfl (hρ _)
  · rename_i c a b hop
    simp only at hop; subst hop
    have hc := hρ c
    split at hv
    · rename_i hcc
      rw [hcc] at hc
      simp only [Option.some.injEq] at hv; subst hv
      exact .same R (by simp [execOp, hc.bool_inv, asBool]) (hρ a)
    · rename_i hcc
      rw [hcc] at hc
      simp only [Option.some.injEq] at hv; subst hv
      exact .same R (by simp [execOp, hc.bool_inv, asBool]) (hρ b)
    · cases hv
  · rename_i t ps hop
    simp only at hop; subst hop
    obtain ⟨r, hr, hvr⟩ := aBuild_sound (ps := ps.map fun x => (x.1, σ x.2)) F hv (by simpa using partsR_map hρ ps.toList) w
    refine .same R ?_ hvr
    simp only [execOp, Sem.run_bind]
    rw [hr]
    rfl
  · rename_i op t x y yt hop
    simp only at hop; subst hop
    have hx := hρ x
    have hy := hρ y
    have hex : execOp σ ⟨dst, .binOp op t x y yt, ty, pos, after, guard⟩ = (do pure (.value (← (do eqGuard op t x y (σ x) (σ y); binOp op t (σ x) (σ y)))) : Sem Next) := rfl
    split at hv
    · rename_i hnx hny
      rw [hnx] at hx
      rw [hny] at hy
      by_cases hc : T.d t = .iface ∧ (isC x || isC y) = true
      case neg => rw [if_neg hc] at hv; cases hv
      rw [if_pos hc] at hv
      split at hv
      · simp only [Option.some.injEq] at hv; subst hv
        refine .same R ?_ (.cell (.bool true))
        rw [hex, Sem.run_bind, hx.nili_inv, hy.nili_inv, nili_eql F x y hc.2 hc.1]
        rfl
      · simp only [Option.some.injEq] at hv; subst hv
        refine .same R ?_ (.cell (.bool false))
        rw [hex, Sem.run_bind, hx.nili_inv, hy.nili_inv, nili_neq F x y hc.2 hc.1]
        rfl
      · cases hv
    · obtain ⟨c, hc, hcv⟩ := aBin_sound F x y hv hx hy w
      refine .same R ?_ hcv
      rw [hex, Sem.run_bind, hc]
      rfl
  · rename_i op t x hop
    simp only at hop; subst hop
    obtain ⟨c, hc, hcv⟩ := aUn_sound (P := P) hv (hρ x) w
    exact .same R (by simp only [execOp, Sem.run_bind, hc]; rfl) hcv
  · rename_i x hop
    simp only at hop; subst hop
    have hx := hρ x
    split at hv
    · rename_i r p t hxx
      rw [hxx] at hx
      simp only [Option.some.injEq] at hv; subst hv
      obtain ⟨b, o, off, h1, h2, h3⟩ := hx.ref_inv
      refine .same (x := σ x) R ?_ hx
      simp only [execOp, h3]
      rfl
    · rename_i t v' hxx
      rw [hxx] at hx
      simp only [Option.some.injEq] at hv; subst hv
      obtain ⟨b, o, cs, h1, h2, h3⟩ := hx.vptr_inv
      refine .same (x := σ x) R ?_ hx
      simp only [execOp, h3]
      rfl
    · cases hv
  · rename_i t x f hop
    simp only at hop; subst hop
    obtain ⟨c, hc, hcv⟩ := aFieldAddr_sound F hv (hρ x) w
    exact .same R (by simp only [execOp, Sem.run_bind, hc]; rfl) hcv
  · rename_i t x f hop
    simp only at hop; subst hop
    obtain ⟨c, hc, hcv⟩ := aField_sound F hv (hρ x) w
    exact .same R (by simp only [execOp, Sem.run_bind, hc]; rfl) hcv
  · rename_i t x i hop
    simp only at hop; subst hop
    obtain ⟨c, hc, hcv⟩ := aIndexAddr_sound F hv (hρ x) (hρ i) w
    exact .same R (by simp only [execOp, Sem.run_bind, hc]; rfl) hcv
  · rename_i t x i hop
    simp only at hop; subst hop
    obtain ⟨c, hc, hcv⟩ := aIndex_sound F hv (hρ x) (hρ i) w
    exact .same R (by simp only [execOp, Sem.run_bind, hc]; rfl) hcv
  · rename_i x i hop
    simp only at hop; subst hop
    have hx := hρ x
    split at hv
    · rename_i vs hxx
      rw [hxx] at hx
      obtain ⟨xs, h1, h2⟩ := hx.tuple_inv
      obtain ⟨y, hy, hvy⟩ := h1.get? hv
      refine .same R ?_ hvy
      simp only [execOp, h2, Instr.extract, Sem.run_bind, List.getElem?_toArray, hy]
      rfl
    · cases hv
  · rename_i t x lo hi mx hop
    simp only at hop; subst hop
    obtain ⟨c, hc, hcv⟩ := aSlice_sound F hv (hρ x) (optVR_map hρ lo) (optVR_map hρ hi) (optVR_map hρ mx) w
    exact .same R (by simp only [execOp, Sem.run_bind, hc]; rfl) hcv
  · rename_i t len ps hop
    simp only at hop; subst hop
    simp only [Option.map_eq_some_iff] at hv
    obtain ⟨⟨e, l⟩, hel, rfl⟩ := hv
    obtain ⟨e0, cs, hd, he, hl, hfl, hr⟩ := aElems_sound (ps := ps.map fun x => (x.1, σ x.2)) F hel (by simpa using partsR_map hρ ps.toList) w
    obtain ⟨hle, him, R'⟩ := R.newImm cs e0 cs.toArray (0, 0) (fun i v hv => by simpa using hv) (.inl rfl)
    refine ⟨_, _, _, hle, .inl (by simp only [execOp, Sem.run_bind, hr]; rfl), .cell ?_, R'⟩
    have := Cell.vsl (T := T) (k := .exact) (n := 0) (hfl.le hle) him (by simp [TokR])
    rwa [hl, Nat.add_zero] at this
  · rename_i t l c hop
    simp only at hop; subst hop
    simp only [Option.map_eq_some_iff] at hv
    obtain ⟨⟨e, ln, cn, z⟩, hz, rfl⟩ := hv
    have hlv := hρ l
    have hcv := hρ c
    unfold aZeros at hz
    split at hz
    · rename_i e0 lv cv hd hll hcc
      rw [hll] at hlv
      rw [hcc] at hcv
      by_cases hb : 0 ≤ lv ∧ lv ≤ cv ∧ cv * T.bytes e0 ≤ 2 ^ 47 ∧ cv < 2 ^ 62
      case neg => rw [if_neg hb] at hz; cases hz
      rw [if_pos hb] at hz
      simp only [Option.map_eq_some_iff, Prod.mk.injEq] at hz
      obtain ⟨z', hz', rfl, rfl, rfl, rfl⟩ := hz
      obtain ⟨b1, b2, b3, b4⟩ := hb
      obtain ⟨ln, rfl⟩ : ∃ n : Nat, lv = n := ⟨lv.toNat, by omega⟩
      obtain ⟨cn, rfl⟩ : ∃ n : Nat, cv = n := ⟨cv.toNat, by omega⟩
      obtain ⟨cs, hfl, hr⟩ := run_makeSlice (l := ln) (c := cn) F hd (by omega) (by exact_mod_cast b3) (by omega) hz' J w
      simp only [Int.toNat_natCast]
      have hsplit : List.replicate cn z' = List.replicate ln z' ++ List.replicate (cn - ln) z' := by rw [List.replicate_append_replicate]; congr 1; omega
      rw [hsplit] at hfl
      obtain ⟨c1, c2, rfl, hf1, hf2⟩ := hfl.split
      obtain ⟨hle, him, R'⟩ := R.newImm c1 e0 (c1 ++ c2).toArray (0, 0) (fun i v hv => by
        rw [List.getElem?_toArray, List.getElem?_append_left (List.getElem?_eq_some_iff.1 hv).1]; exact hv) (.inl rfl)
      refine ⟨_, _, _, hle, .inl (by simp only [execOp, Sem.run_bind, hlv.int_inv, hcv.int_inv, hr]; rfl), .cell ?_, R'⟩
      have := Cell.vsl (T := T) (k := .none) (n := cn - ln) ((FlE.conv F.ok (F.ok.undUnd _).symm hf1).le hle) him trivial
      rw [List.length_replicate] at this
      rwa [show ln + (cn - ln) = cn by omega] at this
    · cases hz
  · rename_i c hop
    simp only at hop; subst hop
    obtain ⟨callee, args, argTypes⟩ := c
    simp only at hv
    split at hv
    · rename_i x t ha ht
      obtain ⟨c, hcr, hcv⟩ := aLen_sound (P := P) (ty := ty) F hv (hρ x) w
      have ha' : args = #[x] := by rw [← Array.toArray_toList (xs := args), ha]
      have ht' : argTypes = #[t] := by rw [← Array.toArray_toList (xs := argTypes), ht]
      subst ha' ht'
      refine .same R ?_ hcv
      simp only [execOp, resolve, Sem.run_bind, Sem.run_pure, Result.andThen_ok, invoke, builtin]
      simp only [List.map_toArray, List.map_cons, List.map_nil, hcr]
      rfl
    · cases hvs : toVs (args.toList.map ρ) with
      | none => simp [hvs] at hv
      | some vs =>
        simp only [hvs] at hv
        have hvs' := toVs_sound hvs (vrl_map hρ args.toList)
        obtain ⟨c, hcr, hcv⟩ := ofPure_run (P := P) (T := T) (J := J) hv w
        refine .same R ?_ hcv
        simp only [execOp, resolve, Sem.run_bind, Sem.run_pure, Result.andThen_ok, invoke, builtin]
        have : args.map σ = vs.toArray := by rw [← hvs', ← Array.toList_map]
        rw [this]
        have hmin : ∀ a b, Builtin.min_ a b vs.toArray = Builtin.min_ #[] 0 vs.toArray := fun _ _ => rfl
        rw [hmin, hcr]
        rfl
    · cases hvs : toVs (args.toList.map ρ) with
      | none => simp [hvs] at hv
      | some vs =>
        simp only [hvs] at hv
        have hvs' := toVs_sound hvs (vrl_map hρ args.toList)
        obtain ⟨c, hcr, hcv⟩ := ofPure_run (P := P) (T := T) (J := J) hv w
        refine .same R ?_ hcv
        simp only [execOp, resolve, Sem.run_bind, Sem.run_pure, Result.andThen_ok, invoke, builtin]
        have : args.map σ = vs.toArray := by rw [← hvs', ← Array.toList_map]
        rw [this]
        have hmax : ∀ a b, Builtin.max_ a b vs.toArray = Builtin.max_ #[] 0 vs.toArray := fun _ _ => rfl
        rw [hmax, hcr]
        rfl
    · cases hv
  · cases hv
end
end Go.Ax

namespace Go.Ax
open Go Go.RowKit
section
variable {P : Program} {T : Tab} {J : Inj} {B : Nat} {w0 w : World} {h : Heap}
theorem run_markStringish (w : World) (C : Array Value) (e : TypeId) (n : Nat) (hn : C.size = n) :
    (markStringish ⟨w.heap.size, 0, none⟩).run P (w.alloc (.cells C e)) = .ok () (w.alloc (.cells C e (n, n + 1))) := by
  subst hn
  have hsh : (w.alloc (.cells C e)).shape? w.heap.size = some (e, C.size) := by
    have hh : (w.alloc (.cells C e)).heap[w.heap.size]? = some (.cells C e (0, 0)) := by
      show (w.heap.push _)[w.heap.size]? = _
      simp
    simp only [World.shape?]
    rw [hh]
  unfold markStringish
  simp only [Go.shape, Sem.run_bind, Sem.run, hsh, Result.andThen_ok, Go.freeze]
  congr 1
  unfold World.freeze World.alloc
  simp only [Nat.one_ne_zero, if_false]
  congr 1
  apply Array.ext_getElem?
  intro i
  rw [Array.getElem?_modify, Array.getElem?_push, Array.getElem?_push]
  split
  · rename_i h1; subst h1; simp
  · rename_i h1; rw [if_neg (fun h => h1 h.symm), if_neg (fun h => h1 h.symm)]
theorem exRead_sound (F : Fits P T) (R : Rel T B w0 J h w) {ρ : Operand → AV} {σ : Operand → Value} (hρ : ∀ x, VR T J (ρ x) (σ x)) {o : Oper} {v : AV} (hv : exRead T ρ o h = some v) :
    Done P T B w0 J σ o w v h := by
  obtain ⟨dst, op, ty, pos, after, guard⟩ := o
  unfold exRead at hv
  split at hv
  · rename_i t x hop
    simp only at hop; subst hop
    obtain ⟨c, hc, hcv⟩ := exLoad_sound F R hv (hρ x)
    exact .same R (by simp only [execOp, Sem.run_bind, hc]; rfl) hcv
  · rename_i s t x hop
    simp only at hop; subst hop
    have hx := hρ x
    split at hv
    · rename_i ks kd kk n hs ht hxx
      rw [hxx] at hx
      simp only [Option.some.injEq] at hv; subst hv
      refine .same R ?_ (.cell (.int _ _))
      simp only [execOp, Sem.run_bind, hx.int_inv, convert, run_und (F.und_int hs), run_und (F.und_int ht), Result.andThen_ok, Conv.intToInt, Sem.run_pure]
    · rename_i b hs ht hxx
      rw [hxx] at hx
      simp only [Option.some.injEq] at hv; subst hv
      refine .same R ?_ (.cell (.str _))
      simp only [execOp, Sem.run_bind, hx.str_inv, convert, run_und (F.und_str hs), run_und (F.und_str ht), Result.andThen_ok, Sem.run_pure]
    · rename_i e b hs ht hxx
      rw [hxx] at hx
      by_cases he : T.d e = .int .u8
      case neg => simp [he] at hv
      rw [if_pos he] at hv
      simp only [Option.some.injEq] at hv; subst hv
      obtain ⟨c, hc, hcr⟩ := run_choose_cap (P := P) b.size 0 e w
      have hsz : T.size e = 1 := F.ok.cell _ (by simp [Tab.cell, he, D.cell])
      have hfl := ofBytes_fl (T := T) (J := J) he b.data.toList
      have hll : (ofBytes b.data.toList).length = b.size := by simp [ofBytes]
      let cs : List Value := b.data.toList.map fun b => Value.int .u8 b.toNat
      have hcl : cs.length = b.size := by simp [cs]
      let C : Array Value := (b.data.map fun b => Value.int .u8 b.toNat) ++ Array.replicate (c - b.size) (.int .u8 0)
      have hC : ∀ (i : Nat) (v : Value), cs[i]? = some v → C[i]? = some v := by
        intro i v hv
        have h1 := (List.getElem?_eq_some_iff.1 hv).1
        have h2 : (b.data.map fun b => Value.int .u8 b.toNat)[i]? = some v := by
          simp only [cs, List.getElem?_map] at hv
          rw [Array.getElem?_map, ← Array.getElem?_toList]
          exact hv
        simp only [C]
        rw [Array.getElem?_append_left (by simpa [cs] using h1)]
        exact h2
      have hCs : C.size = c := by simp [C]; omega
      obtain ⟨hle, him, R'⟩ := R.drew.newImm cs e C (c, c + 1) hC (.inr (by omega))
      refine ⟨_, _, .slice (some ⟨w.drew.heap.size, 0, none⟩) b.size c, hle, .inl ?_, .cell ?_, R'⟩
      · simp only [execOp, Sem.run_bind, hx.str_inv, convert, run_und (F.und_str hs), run_und (F.und_slice ht), run_und (F.und_int he), Result.andThen_ok, Conv.stringToBytes, hcr]
        have hnew : (newRow e C).run P w.drew = .ok ⟨w.drew.heap.size, 0, none⟩ (w.drew.alloc (.cells C e)) := rfl
        rw [show (b.data.map fun b => Value.int .u8 b.toNat) ++ Array.replicate (c - b.size) (.int .u8 0) = C from rfl, hnew, Result.andThen_ok]
        rw [run_markStringish w.drew C e c hCs]
        rfl
      · have := Cell.vsl (T := T) (k := .none) (n := c - b.size) ((FlE.conv F.ok (F.ok.undUnd e).symm hfl).le hle) him trivial
        rw [hll] at this
        rwa [Nat.add_sub_cancel' hc] at this
    · rename_i e hs ht
      by_cases he : T.d e = .int .u8
      case neg => simp [he] at hv
      rw [if_pos he] at hv
      cases hsl : (slElems h (ρ x)).bind bytesOf with
      | none => simp [hsl] at hv
      | some bs =>
        simp only [hsl, Option.some.injEq] at hv
        subst hv
        simp only [Option.bind_eq_some_iff] at hsl
        obtain ⟨l, hl, hb⟩ := hsl
        refine .same R ?_ (.cell (.str _))
        have hcv : execOp σ ⟨dst, .convert s t x, ty, pos, after, guard⟩ = (do pure (.value (← convert s t (σ x))) : Sem Next) := rfl
        rcases slElems_sound F R hl hx with ⟨rfl, ad, h2⟩ | ⟨e', b, o, cs, cap, h1, h2, h3, -⟩
        · simp only [bytesOf, Option.some.injEq] at hb
          subst hb
          rw [hcv, h2]
          simp only [Sem.run_bind, convert, run_und (F.und_slice hs), run_und (F.und_str ht), run_und (F.und_int he), Result.andThen_ok, Conv.bytesToString, Sem.run_pure]
          cases ad <;> rfl
        · obtain ⟨ns, rfl, rfl⟩ := bytesOf_fl F hb h1
          have hlen : ns.length = l.length := by
            have := bytesOf_len hb
            simpa using this
          rw [hcv, h3]
          simp only [Sem.run_bind, convert, run_und (F.und_slice hs), run_und (F.und_str ht), run_und (F.und_int he), Result.andThen_ok]
          rw [run_bytesToString w l.length cap hlen h2]
          rfl
    · rename_i e e0 r e' off len hs ht hxx
      rw [hxx] at hx
      split at hv
      case h_2 => cases hv
      rename_i e1 l hrow
      by_cases hc : s = t ∧ T.d e0 = .int .u8 ∧ T.und e0 = e' ∧ e1 = e'
      case neg => rw [if_neg hc] at hv; cases hv
      rw [if_pos hc] at hv
      obtain ⟨rfl, he0, hue, rfl⟩ := hc
      simp only [Option.some.injEq] at hv
      subst hv
      obtain ⟨b, o, ro, cap, hloc, hra, hlc, hl0, hcx⟩ := hx.msl_inv
      have hsz : T.size e1 = 1 := by rw [← hue, F.ok.undSize]; exact F.ok.cell _ (by simp [Tab.cell, he0, D.cell])
      obtain ⟨v0, hv0, hB⟩ : ∃ v0, w.cell? ⟨b, o, none⟩ = some v0 ∧ B ≤ b := by
        cases R.objs r _ hrow with
        | obj a c d =>
          rw [hloc] at a
          cases a
          generalize J.shape r = sh at c hra
          cases c with
          | @row _ _ total cs ss h1 h2 h3 h4 =>
            simp only [Tab.rowAt, if_true, Option.some.injEq, Prod.mk.injEq] at hra
            have hlen : 0 < (cs ++ ss).length := by rw [h3, hsz]; omega
            have := d 0 _ (List.getElem?_eq_getElem hlen)
            rw [Nat.add_zero] at this
            exact ⟨_, this.1, (R.own b o (by rw [this.2.2]; omega)).1⟩
      obtain ⟨te, n, hsh⟩ : ∃ te n, w.shape? b = some (te, n) := by
        unfold World.cell? at hv0
        unfold World.shape?
        split at hv0
        · rename_i c te _ hw
          simp only at hw
          rw [hw]
          exact ⟨_, _, rfl⟩
        · cases hv0
      refine ⟨_, _, σ x, Inj.Le.refl _, .inl ?_, hx, R.mark hB hsh⟩
      have hcv : execOp σ ⟨dst, .convert s s x, ty, pos, after, guard⟩ = (do pure (.value (← convert s s (σ x))) : Sem Next) := rfl
      have hmk : ∀ k, (markStringish ⟨b, k, none⟩).run P w = .ok () (w.freeze ⟨b, n, none⟩ 1) := fun k => by
        unfold markStringish
        simp only [Go.shape, Sem.run_bind, Sem.run, hsh, Result.andThen_ok, Go.freeze]
      rw [hs] at ht
      cases ht
      rw [hcv, hcx]
      simp only [Sem.run_bind, convert, run_und (F.und_slice hs), run_und (F.und_int he0), Result.andThen_ok, BEq.rfl, hmk]
      rfl
    · cases hv
  · cases hv
end
end Go.Ax

namespace Go.Ax
open Go Go.RowKit
section
variable {P : Program} {T : Tab} {J : Inj} {B : Nat} {w0 w : World} {h : Heap}
def CallOk (P : Program) (T : Tab) (call : CallF) : Prop :=
  ∀ (mode : Bool) (g : FuncId) (args : List AV) (h : Heap) (v : AV) (h' : Heap), call mode g args h = some (v, h') →
    ∀ (B : Nat) (w0 : World) (J : Inj) (w : World) (xs : List Value), Rel T B w0 J h w → VRL T J args xs →
      ((callFunc g xs.toArray).run P w = .ok (.enter g xs.toArray) w ∧
        Calls P g xs.toArray w fun e w' => ∃ J' r, J.Le J' ∧ e = .returned r ∧ VR T J' v r ∧ Rel T B w0 J' h' w') ∨
      ∃ w' r J', (callFunc g xs.toArray).run P w = .ok (.value r) w' ∧ J.Le J' ∧ VR T J' v r ∧ Rel T B w0 J' h' w'
def Goes (P : Program) (T : Tab) (B : Nat) (w0 : World) (J : Inj) (o : Oper) (a : Act) (w : World) (v : AV) (h' : Heap) : Prop :=
  ∀ (K : Act → World → Prop) (Q : Exit → Act → World → Prop),
    (∀ J' x w', J.Le J' → VR T J' v x → Rel T B w0 J' h' w' → K (a.put o.dst x) w') → o.wp P a w K Q
theorem Done.goes {o : Oper} {a : Act} {v : AV} {h' : Heap} (d : Done P T B w0 J a.eval o w v h') : Goes P T B w0 J o a w v h' := by
  intro K Q hK
  obtain ⟨J', w', x, hle, hr, hv, R⟩ := d
  unfold Oper.wp
  rcases hr with hr | ⟨hr, rfl⟩
  · rw [hr]; exact hK J' x w' hle hv R
  · rw [hr]; exact hK J' _ w' hle hv R
theorem exEff_goes (F : Fits P T) {C : Cfg} (hC : C.T = T) {call : CallF} (hcall : CallOk P T call) {mode : Bool} {f : FuncId} (R : Rel T B w0 J h w) {ρ : Operand → AV} {a : Act}
    (hρ : ∀ x, VR T J (ρ x) (a.eval x)) {o : Oper} {v : AV} {h' : Heap} (hv : exEff C call mode f ρ o h = some (v, h')) : Goes P T B w0 J o a w v h' := by
  subst hC
  obtain ⟨dst, op, ty, pos, after, guard⟩ := o
  unfold exEff at hv
  split at hv
  · rename_i t hop
    simp only at hop; subst hop
    simp only [Option.map_eq_some_iff, Prod.mk.injEq] at hv
    obtain ⟨z, hz, rfl, rfl⟩ := hv
    obtain ⟨J', w', r, hle, hr, hvr, R'⟩ := alloc_sound F R hz
    exact Done.goes ⟨J', w', r, hle, .inl (by simp only [execOp, Sem.run_bind, hr]; rfl), hvr, R'⟩
  · rename_i t x hop
    simp only at hop; subst hop
    by_cases hf : fits C.T t (ρ x) = true
    case neg => rw [if_neg hf] at hv; cases hv
    rw [if_pos hf] at hv
    simp only [Option.some.injEq, Prod.mk.injEq] at hv
    obtain ⟨rfl, rfl⟩ := hv
    obtain ⟨J', hle, hvr, R'⟩ := box_sound F R hf (hρ x)
    exact Done.goes ⟨J', _, _, hle, .inl (by simp only [execOp, Sem.run_bind, Instr.box]; rfl), hvr, R'⟩
  · rename_i t x y hop
    simp only at hop; subst hop
    have hx := hρ x
    split at hv
    · rename_i r p u hxx
      rw [hxx] at hx
      by_cases hf : u = C.T.und t ∧ fits C.T t (ρ y) = true
      case neg => rw [if_neg hf] at hv; cases hv
      rw [if_pos hf] at hv
      obtain ⟨rfl, hf⟩ := hf
      cases ho : (h[r]?).bind (objSet (ρ y) · p) with
      | none => simp [ho] at hv
      | some ob =>
        simp only [ho, Option.some.injEq, Prod.mk.injEq] at hv
        obtain ⟨rfl, rfl⟩ := hv
        obtain ⟨w', hr, R'⟩ := store_sound F R hf ho hx (hρ y)
        exact Done.goes ⟨J, w', undef, Inj.Le.refl _, .inr ⟨by simp only [execOp, Sem.run_bind, hr]; rfl, rfl⟩, .undef, R'⟩
    · cases hv
  · rename_i t l c hop
    simp only at hop; subst hop
    simp only [Option.map_eq_some_iff] at hv
    obtain ⟨⟨e, ln, cn, z⟩, hz, hv⟩ := hv
    have hlv := hρ l
    have hcv := hρ c
    unfold aZeros at hz
    split at hz
    case h_2 => cases hz
    rename_i e0 lv cv hd hll hcc
    rw [hll] at hlv
    rw [hcc] at hcv
    by_cases hb : 0 ≤ lv ∧ lv ≤ cv ∧ cv * C.T.bytes e0 ≤ 2 ^ 47 ∧ cv < 2 ^ 62
    case neg => rw [if_neg hb] at hz; cases hz
    rw [if_pos hb] at hz
    simp only [Option.map_eq_some_iff, Prod.mk.injEq] at hz
    obtain ⟨z', hz', rfl, rfl, rfl, rfl⟩ := hz
    obtain ⟨b1, b2, b3, b4⟩ := hb
    obtain ⟨ln, rfl⟩ : ∃ n : Nat, lv = n := ⟨lv.toNat, by omega⟩
    obtain ⟨cn, rfl⟩ : ∃ n : Nat, cv = n := ⟨cv.toNat, by omega⟩
    obtain ⟨cs, hfl, hr⟩ := run_makeSlice (l := ln) (c := cn) F hd (by omega) (by exact_mod_cast b3) (by omega) hz' J w
    simp only [Int.toNat_natCast] at hv
    have hfl' := FlE.conv F.ok (F.ok.undUnd e0).symm hfl
    have hrun : (execOp a.eval ⟨dst, .makeSlice t l c, ty, pos, after, guard⟩).run P w = .ok (.value (.slice (some ⟨w.heap.size, 0, none⟩) ln cn)) (w.alloc (.cells cs.toArray e0)) := by
      simp only [execOp, Sem.run_bind, hlv.int_inv, hcv.int_inv, hr]; rfl
    split at hv
    · rename_i h0
      simp only [Prod.mk.injEq] at hv
      obtain ⟨rfl, rfl⟩ := hv
      obtain ⟨hle, him, R'⟩ := R.newImm [] e0 cs.toArray (0, 0) (fun i v hv => by simp at hv) (.inl rfl)
      refine Done.goes ⟨_, _, _, hle, .inl hrun, .cell ?_, R'⟩
      have := Cell.vsl (T := C.T) (e := C.T.und e0) (k := .none) (n := cn) FlE.nil him trivial
      subst h0
      simpa using this
    · rename_i h0
      simp only [Prod.mk.injEq] at hv
      obtain ⟨rfl, rfl⟩ := hv
      have hobj : ObjC C.T J (.row (C.T.und e0) (List.replicate cn z')) (.row (C.T.und e0) cn) (cs ++ []) :=
        .row hfl' (by simp) (by rw [List.append_nil, hfl'.length F.ok, List.length_replicate]) (fun c hc => by cases hc)
      rw [List.append_nil] at hobj
      obtain ⟨J', hle, hloc, hsh, R'⟩ := R.new e0 hobj
      refine Done.goes ⟨J', _, _, hle, .inl hrun, .cell ?_, R'⟩
      have := Cell.msl (T := C.T) (J := J') (r := h.length) (p := []) (e := C.T.und e0) (off := 0) (len := ln) (cap := cn) (ro := 0) hloc (by rw [hsh]; simp [Tab.rowAt]) (by omega) (by omega)
      simpa using this
  · rename_i t len ps hop
    simp only at hop; subst hop
    cases hel : aElems C.T t len (ps.toList.map fun x => (x.1, ρ x.2)) with
    | none => simp [hel] at hv
    | some el =>
      obtain ⟨e, l⟩ := el
      simp only [hel] at hv
      by_cases hpos : 0 < l.length
      case neg => rw [if_neg hpos] at hv; cases hv
      rw [if_pos hpos] at hv
      simp only [Option.some.injEq, Prod.mk.injEq] at hv
      obtain ⟨rfl, rfl⟩ := hv
      obtain ⟨e0, cs, hd, he, hl, hfl, hr⟩ := aElems_sound (ps := ps.map fun x => (x.1, a.eval x.2)) F hel (by simpa using partsR_map hρ ps.toList) w
      have hobj : ObjC C.T J (.row e l) (.row e len) (cs ++ []) :=
        .row hfl (by omega) (by rw [List.append_nil, hfl.length F.ok, hl]) (fun c hc => by cases hc)
      rw [List.append_nil] at hobj
      obtain ⟨J', hle, hloc, hsh, R'⟩ := R.new e0 hobj
      refine Done.goes ⟨J', _, _, hle, .inl (by simp only [execOp, Sem.run_bind, hr]; rfl), .cell ?_, R'⟩
      have := Cell.msl (T := C.T) (J := J') (r := h.length) (p := []) (e := e) (off := 0) (len := l.length) (cap := len) (ro := 0) hloc (by rw [hsh]; simp [Tab.rowAt]) (by omega) hpos
      rw [hl] at this
      simpa [hl] using this
  · rename_i c hop
    simp only at hop; subst hop
    obtain ⟨callee, args, argTypes⟩ := c
    simp only at hv
    split at hv
    · rename_i s x t u ha ht
      have ha' : args = #[s, x] := by rw [← Array.toArray_toList (xs := args), ha]
      have ht' : argTypes = #[t, u] := by rw [← Array.toArray_toList (xs := argTypes), ht]
      subst ha' ht'
      have fin : ∀ {e : Ty}, C.T.d t = .slice e → (C.T.d u = .str ∨ ∃ e', C.T.d u = .slice e') →
          ∀ {new mu}, srcElems C.T e h (ρ x) = some new → aAppend C.T e mu (ρ s) new h = some (v, h') →
          Goes P C.T B w0 J ⟨dst, .call ⟨.builtin .append, #[s, x], #[t, u]⟩, ty, pos, after, guard⟩ a w v h' := by
        intro e hd hu new mu hsrc happ
        obtain ⟨J', w', r, hle, hr, hvr, R'⟩ := aAppend_sound (ty := ty) F R hd hu hsrc happ (hρ s) (hρ x)
        refine Done.goes ⟨J', w', r, hle, .inl ?_, hvr, R'⟩
        simp only [execOp, resolve, Sem.run_bind, Sem.run_pure, Result.andThen_ok, invoke, builtin]
        simp only [List.map_toArray, List.map_cons, List.map_nil, hr]
        rfl
      split at hv
      · rename_i e e' hd hu
        split at hv
        · rename_i new hsrc
          exact fin hd (.inr ⟨_, hu⟩) hsrc hv
        · cases hv
      · rename_i e hd hu
        split at hv
        · rename_i new hsrc
          exact fin hd (.inl hu) hsrc hv
        · cases hv
      · cases hv
    · rename_i d x t u ha ht
      have ha' : args = #[d, x] := by rw [← Array.toArray_toList (xs := args), ha]
      have ht' : argTypes = #[t, u] := by rw [← Array.toArray_toList (xs := argTypes), ht]
      subst ha' ht'
      split at hv
      case h_2 => cases hv
      rename_i e hd
      split at hv
      case h_3 => cases hv
      case h_2 =>
        rename_i e' tk hdd
        by_cases he : e' = C.T.und e
        case neg => rw [if_neg he] at hv; cases hv
        rw [if_pos he] at hv
        split at hv
        case h_2 => cases hv
        rename_i src hsrc
        simp only [Option.some.injEq, Prod.mk.injEq] at hv
        obtain ⟨rfl, rfl⟩ := hv
        have hdv := hρ d
        rw [hdd] at hdv
        have hr := aCopy0_sound (u := u) (ty := ty) F R hd hsrc hdv (hρ x)
        refine Done.goes ⟨J, w, _, Inj.Le.refl _, .inl ?_, .cell (.int _ _), R⟩
        simp only [execOp, resolve, Sem.run_bind, Sem.run_pure, Result.andThen_ok, invoke, builtin]
        simp only [List.map_toArray, List.map_cons, List.map_nil, hr]
        rfl
      rename_i r p e' off len hdd
      by_cases he : e' = C.T.und e
      case neg => rw [if_neg he] at hv; cases hv
      rw [if_pos he] at hv
      subst he
      split at hv
      case h_2 => cases hv
      rename_i src hsrc
      have hdv := hρ d
      rw [hdd] at hdv
      obtain ⟨w', rr, hr, hvr, R'⟩ := aCopy_sound (u := u) (ty := ty) F R hd ⟨_, _, _, _, rfl⟩ hsrc hv hdv (hρ x)
      refine Done.goes ⟨J, w', rr, Inj.Le.refl _, .inl ?_, hvr, R'⟩
      simp only [execOp, resolve, Sem.run_bind, Sem.run_pure, Result.andThen_ok, invoke, builtin]
      simp only [List.map_toArray, List.map_cons, List.map_nil, hr]
      rfl
    · rename_i x
      split at hv
      case h_2 => cases hv
      rename_i g cs hxx
      have hx := hρ x
      rw [hxx] at hx
      obtain ⟨ys, hys, hfx⟩ := hx.fn_inv
      have hargs : VRL C.T J (args.toList.map ρ ++ cs) (args.toList.map a.eval ++ ys) := (vrl_map hρ _).append hys
      have hc := hcall _ _ _ _ _ _ hv B w0 J w _ R hargs
      intro K Q hK
      unfold Oper.wp
      have hrun : (execOp a.eval ⟨dst, .call ⟨.value x, args, argTypes⟩, ty, pos, after, guard⟩).run P w = (callFunc g (args.toList.map a.eval ++ ys).toArray).run P w := by
        simp only [execOp, resolve, hfx, Deferred.ofValue, Sem.run_bind, Sem.run_pure, Result.andThen_ok, invoke]
        have : #[] ++ args.map a.eval ++ ys.toArray = (args.toList.map a.eval ++ ys).toArray := by
          apply Array.ext'
          simp
        rw [this]
      rw [hrun]
      rcases hc with ⟨h1, h2⟩ | ⟨w', r, J', h1, hle, hvr, R'⟩
      · rw [h1]
        refine h2.mono fun e w' he => ?_
        obtain ⟨J', r, hle, rfl, hvr, R'⟩ := he
        exact hK J' r w' hle hvr R'
      · rw [h1]
        exact hK J' r w' hle hvr R'
    · cases hv
  · cases hv
theorem exBase_goes (F : Fits P T) {C : Cfg} (hC : C.T = T) {call : CallF} (hcall : CallOk P T call) {mode : Bool} {f : FuncId} (R : Rel T B w0 J h w) {ρ : Operand → AV} {a : Act}
    (hρ : ∀ x, VR T J (ρ x) (a.eval x)) {o : Oper} {v : AV} {h' : Heap} (hv : exBase C call mode f ρ o h = some (v, h')) : Goes P T B w0 J o a w v h' := by
  unfold exBase at hv
  split at hv
  · cases hp : exPure C.T ρ o with
    | none => simp [hp] at hv
    | some v' =>
      simp only [hp, Option.some.injEq, Prod.mk.injEq] at hv
      obtain ⟨rfl, rfl⟩ := hv
      rw [hC] at hp
      exact (exPure_sound F R hρ hp).goes
  · cases hp : exRead C.T ρ o h with
    | none => simp [hp] at hv
    | some v' =>
      simp only [hp, Option.some.injEq, Prod.mk.injEq] at hv
      obtain ⟨rfl, rfl⟩ := hv
      rw [hC] at hp
      exact (exRead_sound F R hρ hp).goes
  · exact exEff_goes F hC hcall R hρ hv
theorem freezeA_sound (F : Fits P T) (R : Rel T B w0 J h w) {v v' : AV} {h' : Heap} {x : Value} (hf : freezeA v h = some (v', h')) (hv : VR T J v x) :
    ∃ J', J.Le J' ∧ VR T J' v' x ∧ Rel T B w0 J' h' w := by
  unfold freezeA at hf
  split at hf
  · rename_i r e off len
    split at hf
    · rename_i e' l hr
      by_cases hc : e' = e ∧ off + len ≤ l.length
      case neg => rw [if_neg hc] at hf; cases hf
      rw [if_pos hc] at hf
      simp only [Option.some.injEq, Prod.mk.injEq] at hf
      obtain ⟨rfl, rfl⟩ := hf
      obtain ⟨rfl, hlen⟩ := hc
      obtain ⟨b, o, ro, cap, hloc, hrow, hlc, hl0, rfl⟩ := hv.msl_inv
      obtain ⟨cs, hfl, hle, him, R'⟩ := R.freeze hr hloc
      have hro : ro = 0 := by
        unfold Tab.rowAt at hrow
        cases hs : J.shape r with
        | row e1 total =>
          rw [hs] at hrow
          simp only at hrow
          split at hrow
          · simp only [Option.some.injEq, Prod.mk.injEq] at hrow; exact hrow.1.symm
          · cases hrow
        | var t1 =>
          obtain ⟨ds, hc, -⟩ := R.obj hr hloc (by simp) (by simp)
          rw [hs] at hc
          cases hc
      subst hro
      obtain ⟨d1, d2, d3, rfl, hld1, hd2, -⟩ := hfl.drop_take F.ok (a := off) (b := off + len) (by omega) hlen
      have hdt : (l.take (off + len)).drop off = (l.drop off).take len := by rw [List.drop_take]; congr 1; omega
      rw [hdt] at hd2
      rw [Inj.imms_append, Inj.imms_append, hld1] at him
      refine ⟨_, hle, .cell ?_, R'⟩
      have := Cell.vsl (T := T) (k := .none) (n := cap - len) (hd2.le hle) him.2.1 trivial
      have hl : ((l.drop off).take len).length = len := by simp; omega
      rw [hl, Nat.add_sub_cancel' hlc] at this
      exact this
    · cases hf
  · simp only [Option.some.injEq, Prod.mk.injEq] at hf
    obtain ⟨rfl, rfl⟩ := hf
    exact ⟨J, Inj.Le.refl _, hv, R⟩
theorem exOp_goes (F : Fits P T) {C : Cfg} (hC : C.T = T) {call : CallF} (hcall : CallOk P T call) {mode : Bool} {f : FuncId} (R : Rel T B w0 J h w) {ρ : Operand → AV} {a : Act}
    (hρ : ∀ x, VR T J (ρ x) (a.eval x)) {o : Oper} {v : AV} {h' : Heap} (hv : exOp C call mode f ρ o h = some (v, h')) : Goes P T B w0 J o a w v h' := by
  unfold exOp at hv
  cases hb : exBase C call mode f ρ o h with
  | none => simp [hb] at hv
  | some vh =>
    obtain ⟨v1, h1⟩ := vh
    simp only [hb] at hv
    have hg := exBase_goes F hC hcall R hρ hb
    split at hv
    · intro K Q hK
      refine hg K Q fun J' x w' hle hvx R' => ?_
      obtain ⟨J'', hle', hv'', R''⟩ := freezeA_sound F R' hv hvx
      exact hK J'' x w' (hle.trans hle') hv'' R''
    · simp only [Option.some.injEq, Prod.mk.injEq] at hv
      obtain ⟨rfl, rfl⟩ := hv
      exact hg
end
end Go.Ax

namespace Go.Ax
open Go
mutual
/-- Are two values the same? -/
def AV.same : AV → AV → Bool
  | .undef, .undef => true
  | .skip, .skip => true
  | .int k n, .int k' n' => k == k' && n == n'
  | .bool a, .bool b => a == b
  | .str s, .str s' => s.data.toList == s'.data.toList
  | .nilp, .nilp => true
  | .ref r p t, .ref r' p' t' => r == r' && p == p' && t == t'
  | .vptr t v, .vptr t' v' => t == t' && AV.same v v'
  | .nils, .nils => true
  | .vsl e l k, .vsl e' l' k' => e == e' && AV.sames l l' && k == k'
  | .msl r p e o n, .msl r' p' e' o' n' => r == r' && p == p' && e == e' && o == o' && n == n'
  | .agg t l, .agg t' l' => t == t' && AV.sames l l'
  | .tuple l, .tuple l' => AV.sames l l'
  | .fn f l, .fn f' l' => f == f' && AV.sames l l'
  | .nilf, .nilf => true
  | .nilm, .nilm => true
  | .mapr r, .mapr r' => r == r'
  | .nili, .nili => true
  | .iface t v, .iface t' v' => t == t' && AV.same v v'
  | _, _ => false
def AV.sames : List AV → List AV → Bool
  | [], [] => true
  | a :: l, b :: r => AV.same a b && AV.sames l r
  | _, _ => false
end
mutual
theorem AV.same_eq : ∀ {a b : AV}, AV.same a b = true → a = b := by
  intro a b h
  cases a <;> cases b <;> simp only [AV.same, Bool.and_eq_true, beq_iff_eq, Bool.false_eq_true] at h
  case str.str s s' => cases s with | mk a => cases s' with | mk b => simp at h; rw [h]
  case vptr.vptr => rw [h.1, AV.same_eq h.2]
  case iface.iface => rw [h.1, AV.same_eq h.2]
  case vsl.vsl => rw [h.1.1, AV.sames_eq h.1.2, h.2]
  case agg.agg => rw [h.1, AV.sames_eq h.2]
  case tuple.tuple => rw [AV.sames_eq h]
  case fn.fn => rw [h.1, AV.sames_eq h.2]
  all_goals simp_all
theorem AV.sames_eq : ∀ {a b : List AV}, AV.sames a b = true → a = b
  | [], [], _ => rfl
  | a :: l, b :: r, h => by
    simp only [AV.sames, Bool.and_eq_true] at h
    rw [AV.same_eq h.1, AV.sames_eq h.2]
  | [], _ :: _, h => by simp [AV.sames] at h
  | _ :: _, [], h => by simp [AV.sames] at h
end
mutual
theorem AV.same_refl : ∀ (a : AV), AV.same a a = true
  | .undef => rfl
  | .skip => rfl
  | .int _ _ => by simp [AV.same]
  | .bool _ => by simp [AV.same]
  | .str _ => by simp [AV.same]
  | .nilp => rfl
  | .ref _ _ _ => by simp [AV.same]
  | .vptr _ v => by simp [AV.same, AV.same_refl v]
  | .nils => rfl
  | .vsl _ l _ => by simp [AV.same, AV.sames_refl l]
  | .msl _ _ _ _ _ => by simp [AV.same]
  | .agg _ l => by simp [AV.same, AV.sames_refl l]
  | .tuple l => by simp [AV.same, AV.sames_refl l]
  | .fn _ l => by simp [AV.same, AV.sames_refl l]
  | .nilf => rfl
  | .nilm => rfl
  | .mapr _ => by simp [AV.same]
  | .nili => rfl
  | .iface _ v => by simp [AV.same, AV.same_refl v]
theorem AV.sames_refl : ∀ (l : List AV), AV.sames l l = true
  | [] => rfl
  | a :: l => by simp [AV.sames, AV.same_refl a, AV.sames_refl l]
end
inductive Ex where
  | normal
  | exit (id : Nat)
  | ret
  deriving DecidableEq
def putT (tm : List AV) (d : Option Tmp) (v : AV) : List AV :=
  match d with
  | some d => tm.set d v
  | none => tm
def guardA (ops : Array Oper) (tm : List AV) (g : Option (Nat × Bool)) : Option Bool :=
  match g with
  | none => some true
  | some (j, want) => match (ops[j]?).bind (·.dst) with
    | some d => match tm[d]? with
      | some (.bool b) => some (b == want)
      | some .skip => some false
      | _ => none
    | none => none
section
variable (C : Cfg) (call : CallF) (mode : Bool) (f : FuncId)
def stepA (ops : Array Oper) (o : Oper) (tm : List AV) (h : Heap) : Option (AV × Heap) :=
  match guardA ops tm o.guard with
  | some true => exOp C call mode f (evalA tm) o h
  | some false => some (.skip, h)
  | none => none
def runOps (ops : Array Oper) : List Oper → List AV → Heap → Option (List AV × Heap)
  | [], tm, h => some (tm, h)
  | o :: r, tm, h => match stepA C call mode f ops o tm h with
    | some (v, h') => runOps ops r (putT tm o.dst v) h'
    | none => none
def traceOps (ops : Array Oper) : List Oper → List AV → Heap → Option (List (List AV × Heap × AV) × List AV × Heap)
  | [], tm, h => some ([], tm, h)
  | o :: r, tm, h => match stepA C call mode f ops o tm h with
    | some (v, h') => match traceOps ops r (putT tm o.dst v) h' with
      | some (l, s) => some ((tm, h, v) :: l, s)
      | none => none
    | none => none
def masks : List Oper → List Nat → List Nat
  | [], acc => acc
  | o :: r, acc => masks r (acc ++ [o.after.toList.foldl (fun s e => if Region.binds .any e then s ||| (2 ^ e.on) ||| acc.getD e.on 0 else s) 0])
def ord (ms : List Nat) (i j : Nat) : Bool := (ms.getD j 0).testBit i
def isEff (o : Oper) : Bool := kindOf C f o == .eff
def isRead (o : Oper) : Bool := kindOf C f o == .read
def drawOk (ops : List Oper) (ms : List Nat) (all : Array Oper) : Bool :=
  (ops.zipIdx.all fun (o, j) =>
    (o.after.toList.all fun e => !Region.binds .any e || e.on < j) &&
    (ops.zipIdx.all fun (o', i) => !(i < j) || ord ms i j || (!(isEff C f o' && isEff C f o) && Oper.apart all o' o)))
def heapless (o : Oper) : Bool :=
  match o.op with
  | .convert s t _ => match C.T.d s, C.T.d t with
    | .int _, .int _ => true
    | _, _ => false
  | _ => false
def pairsOf (ops : List Oper) (ms : List Nat) : List (Nat × Nat) :=
  (List.range ops.length).flatMap fun i => (List.range ops.length).filterMap fun e =>
    match ops[i]?, ops[e]? with
    | some o, some o' => if (isRead C f o && !heapless C o) && (isEff C f o' && (!ord ms i e && !ord ms e i)) then some (i, e) else none
    | _, _ => none
def rdSame (x : Option AV) (v : AV) : Bool :=
  match x with
  | some v' => AV.same v' v
  | none => false
def offA (x : Option Bool) : Bool :=
  match x with
  | some false => true
  | _ => false
def readOk (all : Array Oper) (ops : List Oper) (tr : List (List AV × Heap × AV)) (last : Heap) (x : Nat × Nat) : Bool :=
  match ops[x.1]?, tr[x.1]? with
  | some o, some (tm, _, v) => match (if x.1 < x.2 then (match tr[x.2 + 1]? with | some (_, h, _) => some h | none => some last) else (tr[x.2]?).map (·.2.1)) with
    | some h => offA (guardA all tm o.guard) || rdSame (exRead C.T (evalA tm) o h) v
    | none => false
  | _, _ => false
def readsOk (all : Array Oper) (ops : List Oper) (tr : List (List AV × Heap × AV)) (last : Heap) : List (Nat × Nat) → Bool
  | [] => true
  | x :: r => readOk C all ops tr last x && readsOk all ops tr last r
def exRegion (ops : Array Oper) (draw : Bool) (tm : List AV) (h : Heap) : Option (List AV × Heap) :=
  if draw then
    if drawOk C f ops.toList (masks ops.toList []) ops then
      match traceOps C call mode f ops ops.toList tm h with
      | some (tr, tm', h') =>
        if readsOk C ops ops.toList tr h' (pairsOf C f ops.toList (masks ops.toList [])) then some (tm', h') else none
      | none => none
    else none
  else runOps C call mode f ops ops.toList tm h
def loopA (body : List AV → Heap → Option (Ex × List AV × Heap)) : Nat → List AV → Heap → Option (Ex × List AV × Heap)
  | 0, _, _ => none
  | n + 1, tm, h => match body tm h with
    | some (.normal, tm', h') => loopA body n tm' h'
    | r => r
def exCode (n : Nat) : Code → List AV → Heap → Option (Ex × List AV × Heap)
  | .skip, tm, h => some (.normal, tm, h)
  | .label _, tm, h => some (.normal, tm, h)
  | .ret, tm, h => some (.ret, tm, h)
  | .exit id, tm, h => some (.exit id, tm, h)
  | .region id ops draw, tm, h => match exRegion C call mode f ops draw tm h with
    | some (tm', h') => some (.normal, clr (C.keep f id) tm', h')
    | none => none
  | .seq a b, tm, h => match exCode n a tm h with
    | some (.normal, tm', h') => exCode n b tm' h'
    | r => r
  | .cond c x y, tm, h => match evalA tm c with
    | .bool true => exCode n x tm h
    | .bool false => exCode n y tm h
    | _ => none
  | .block id c, tm, h => match exCode n c tm h with
    | some (.exit id', tm', h') => if id' = id then some (.normal, tm', h') else some (.exit id', tm', h')
    | r => r
  | .loop c, tm, h => loopA (exCode n c) n tm h
  | _, _, _ => none
end
structure Fn' where
  ntmps : Nat
  results : List Nat
  body : Code
abbrev Funs := FuncId → Option Fn'
def results (rs : List Nat) (tm : List AV) : AV :=
  match rs with
  | [t] => tm.getD t .undef
  | rs => .tuple (rs.map fun t => tm.getD t .undef)
def aCount (args : List AV) (h : Heap) : Option (AV × Heap) :=
  match args with
  | [x, .int .u8 n] => match (slElems h x).bind bytesOf with
    | some l => some (.int .i64 (l.count n.toNat.toUInt8 : Nat), h)
    | none => none
  | _ => none
def exFn (C : Cfg) (E : Funs) : Nat → CallF
  | 0 => fun _ _ _ _ => none
  | k + 1 => fun mode f args h => match E f with
    | some fn => match exCode C (exFn C E k) mode f k fn.body (args ++ List.replicate (fn.ntmps - args.length) .undef) h with
      | some (.normal, tm, h') => some (results fn.results tm, h')
      | some (.ret, tm, h') => some (results fn.results tm, h')
      | _ => none
    | none => if C.cnt f then aCount args h else none
end Go.Ax

namespace Go.Ax
open Go
theorem map_congr' {ρ ρ' : Operand → AV} {l : List Operand} (h : ∀ x ∈ l, ρ x = ρ' x) : l.map ρ = l.map ρ' := List.map_congr_left h
theorem parts_congr {ρ ρ' : Operand → AV} {l : List (Nat × Operand)} (h : ∀ x ∈ l.map (·.2), ρ x = ρ' x) : (l.map fun x => (x.1, ρ x.2)) = l.map fun x => (x.1, ρ' x.2) :=
  List.map_congr_left fun x hx => by rw [h x.2 (List.mem_map.2 ⟨x, hx, rfl⟩)]
theorem opt_congr {ρ ρ' : Operand → AV} {o : Option Operand} (h : ∀ x ∈ o.toList, ρ x = ρ' x) : o.map ρ = o.map ρ' := by
  cases o with
  | none => rfl
  | some x => simp [h x (by simp)]
theorem exPure_congr {T : Tab} {ρ ρ' : Operand → AV} {o : Oper} (h : ∀ x ∈ o.op.operands.toList, ρ x = ρ' x) : exPure T ρ o = exPure T ρ' o := by
  obtain ⟨dst, op, ty, pos, after, guard⟩ := o
  simp only at h
  cases op with
  | move x => simp only [exPure, h x (by simp [Op.operands])]
  | assign x => simp only [exPure, h x (by simp [Op.operands])]
  | pick c a b => simp only [exPure, h c (by simp [Op.operands]), h a (by simp [Op.operands]), h b (by simp [Op.operands])]
  | build t ps => simp only [exPure, parts_congr (l := ps.toList) (ρ := ρ) (ρ' := ρ') (fun x hx => h x (by simpa [Op.operands] using hx))]
  | buildSlice t n ps => simp only [exPure, parts_congr (l := ps.toList) (ρ := ρ) (ρ' := ρ') (fun x hx => h x (by simpa [Op.operands] using hx))]
  | binOp op t x y yt => simp only [exPure, h x (by simp [Op.operands]), h y (by simp [Op.operands])]
  | unOp op t x => simp only [exPure, h x (by simp [Op.operands])]
  | nilCheck x => simp only [exPure, h x (by simp [Op.operands])]
  | fieldAddr t x f => simp only [exPure, h x (by simp [Op.operands])]
  | field t x f => simp only [exPure, h x (by simp [Op.operands])]
  | indexAddr t x i => simp only [exPure, h x (by simp [Op.operands]), h i (by simp [Op.operands])]
  | index t x i => simp only [exPure, h x (by simp [Op.operands]), h i (by simp [Op.operands])]
  | extract x i => simp only [exPure, h x (by simp [Op.operands])]
  | slice t x lo hi mx =>
    simp only [exPure, h x (by simp [Op.operands]), opt_congr (o := lo) (ρ := ρ) (ρ' := ρ') (fun y hy => h y (by simp [Op.operands] at hy ⊢; simp [hy])),
      opt_congr (o := hi) (ρ := ρ) (ρ' := ρ') (fun y hy => h y (by simp [Op.operands] at hy ⊢; simp [hy])),
      opt_congr (o := mx) (ρ := ρ) (ρ' := ρ') (fun y hy => h y (by simp [Op.operands] at hy ⊢; simp [hy]))]
  | makeSlice t l c => simp only [exPure, h l (by simp [Op.operands]), h c (by simp [Op.operands])]
  | call c =>
    obtain ⟨callee, args, ats⟩ := c
    have ha : args.toList.map ρ = args.toList.map ρ' := map_congr' fun x hx => h x (by simp [Op.operands, Call.operands] at hx ⊢; simp [hx])
    simp only [exPure]
    split
    · rename_i x t hx ht
      rw [hx] at ha
      simp only [List.map_cons, List.map_nil, List.cons.injEq, and_true] at ha
      rw [ha]
    · rw [ha]
    · rw [ha]
    · rfl
  | _ => rfl
theorem exRead_congr {T : Tab} {ρ ρ' : Operand → AV} {o : Oper} {hp : Heap} (h : ∀ x ∈ o.op.operands.toList, ρ x = ρ' x) : exRead T ρ o hp = exRead T ρ' o hp := by
  obtain ⟨dst, op, ty, pos, after, guard⟩ := o
  simp only at h
  cases op with
  | load t x => simp only [exRead, h x (by simp [Op.operands])]
  | convert s t x => simp only [exRead, h x (by simp [Op.operands])]
  | _ => rfl
theorem exEff_congr {C : Cfg} {call : CallF} {mode : Bool} {f : FuncId} {ρ ρ' : Operand → AV} {o : Oper} {hp : Heap} (h : ∀ x ∈ o.op.operands.toList, ρ x = ρ' x) :
    exEff C call mode f ρ o hp = exEff C call mode f ρ' o hp := by
  obtain ⟨dst, op, ty, pos, after, guard⟩ := o
  simp only at h
  cases op with
  | box t x => simp only [exEff, h x (by simp [Op.operands])]
  | store t a x => simp only [exEff, h a (by simp [Op.operands]), h x (by simp [Op.operands])]
  | makeSlice t l c => simp only [exEff, h l (by simp [Op.operands]), h c (by simp [Op.operands])]
  | buildSlice t n ps => simp only [exEff, parts_congr (l := ps.toList) (ρ := ρ) (ρ' := ρ') (fun x hx => h x (by simpa [Op.operands] using hx))]
  | call c =>
    obtain ⟨callee, args, ats⟩ := c
    have ha : args.toList.map ρ = args.toList.map ρ' := map_congr' fun x hx => h x (by simp [Op.operands, Call.operands] at hx ⊢; simp [hx])
    simp only [exEff]
    split
    · rename_i s x t u hx ht
      rw [hx] at ha
      simp only [List.map_cons, List.map_nil, List.cons.injEq, and_true] at ha
      rw [ha.1, ha.2]
    · rename_i d x t u hx ht
      rw [hx] at ha
      simp only [List.map_cons, List.map_nil, List.cons.injEq, and_true] at ha
      rw [ha.1, ha.2]
    · rename_i x
      rw [ha, h x (by simp [Op.operands, Call.operands])]
    · rfl
  | _ => rfl
theorem exOp_congr {C : Cfg} {call : CallF} {mode : Bool} {f : FuncId} {ρ ρ' : Operand → AV} {o : Oper} {hp : Heap} (h : ∀ x ∈ o.op.operands.toList, ρ x = ρ' x) :
    exOp C call mode f ρ o hp = exOp C call mode f ρ' o hp := by
  unfold exOp exBase
  rw [exPure_congr h, exRead_congr h, exEff_congr h]
end Go.Ax

namespace Go.Ax
open Go Go.RowKit
section
variable {P : Program} {T : Tab} {B : Nat} {w0 : World}
theorem put_vrl {J : Inj} {tm : List AV} {a : Act} (h : VRL T J tm a.tmps.toList) {v : AV} {x : Value} (hv : VR T J v x) (d : Option Tmp) : VRL T J (putT tm d v) (a.put d x).tmps.toList := by
  cases d with
  | none => exact h
  | some d =>
    have := h.set d hv
    simpa [putT, Act.put, Array.toList_setIfInBounds] using this
theorem put_defers (a : Act) (d : Option Tmp) (x : Value) : (a.put d x).defers = a.defers := by cases d <;> rfl
theorem guard_sound {J : Inj} {ops : Array Oper} {tm : List AV} {a : Act} {o : Oper} {b : Bool} (h : VRL T J tm a.tmps.toList) (hg : guardA ops tm o.guard = some b) :
    Region.wanted o (yielded ops a.tmps) = b := by
  unfold guardA at hg
  unfold Region.wanted
  cases hog : o.guard with
  | none => simp only [hog, Option.some.injEq] at hg ⊢; exact hg
  | some jw =>
    obtain ⟨j, want⟩ := jw
    simp only [hog] at hg ⊢
    cases hd : (ops[j]?).bind (·.dst) with
    | none => simp [hd] at hg
    | some d =>
      simp only [hd] at hg
      cases ht : tm[d]? with
      | none => simp [ht] at hg
      | some v =>
        simp only [ht] at hg
        split at hg
        · rename_i b' hb
          simp only [Option.some.injEq] at hb hg
          subst hb
          obtain ⟨x, hx, hvx⟩ := h.get? ht
          have hx' : a.tmps[d]? = some (.bool b') := by rw [← Array.getElem?_toList, hx, hvx.bool_inv]
          have : yielded ops a.tmps j = some b' := by
            unfold yielded
            rw [hd]
            simp only [Option.bind_some, hx']
          rw [this, ← hg]
          cases b' <;> cases want <;> rfl
        · rename_i hb
          simp only [Option.some.injEq] at hb hg
          subst hb hg
          obtain ⟨x, hx, hvx⟩ := h.get? ht
          have hx' : a.tmps[d]? = some undef := by
            rw [← Array.getElem?_toList, hx]
            cases hvx with
            | skip => rfl
            | cell c => cases c
          have : yielded ops a.tmps j = none := by
            unfold yielded
            rw [hd]
            simp only [Option.bind_some, hx']
            rfl
          rw [this]
          rfl
        · cases hg
section
variable {C : Cfg} {call : CallF} {mode : Bool} {f : FuncId} (F : Fits P T) (hC : C.T = T) (hcall : CallOk P T call)
include F hC hcall
theorem step_wp {J : Inj} {ops : Array Oper} {Q : Exit → Act → World → Prop} {i : Nat} {o : Oper} {tm : List AV} {h h' : Heap} {v : AV} {a : Act} {w : World} (hi : ops[i]? = some o)
    (hs : stepA C call mode f ops o tm h = some (v, h')) (R : Rel T B w0 J h w) (hv : VRL T J tm a.tmps.toList) (K : Act → World → Prop)
    (hK : ∀ J' x w', J.Le J' → VR T J' v x → Rel T B w0 J' h' w' → K (a.put o.dst x) w') : wpOp P ops Q i K a w := by
  unfold stepA at hs
  unfold wpOp
  rw [hi]
  cases hg : guardA ops tm o.guard with
  | none => simp [hg] at hs
  | some b =>
    have hw := guard_sound hv hg
    cases b with
    | true =>
      simp only [hg] at hs
      simp only [hw, if_true]
      exact .inl (exOp_goes F hC hcall R (fun x => evalA_VR hv x) hs K Q hK)
    | false =>
      simp only [hg, Option.some.injEq, Prod.mk.injEq] at hs
      obtain ⟨rfl, rfl⟩ := hs
      simp only [hw, Bool.false_eq_true, if_false]
      exact hK J undef w (Inj.Le.refl _) .skip R
theorem runOps_sound {ops : Array Oper} {Q : Exit → Act → World → Prop} : ∀ (l : List Oper) (k : Nat), (∀ j, l[j]? = ops[k + j]?) →
    ∀ {J : Inj} {tm tm' : List AV} {h h' : Heap} {a : Act} {w : World}, runOps C call mode f ops l tm h = some (tm', h') → Rel T B w0 J h w → VRL T J tm a.tmps.toList →
    (∀ J' a' w', J.Le J' → VRL T J' tm' a'.tmps.toList → a'.defers = a.defers → Rel T B w0 J' h' w' → Q .normal a' w') → wpOps P ops Q (List.range' k l.length) a w
  | [], k, _, J, tm, tm', h, h', a, w, hr, R, hv, hQ => by
    simp only [runOps, Option.some.injEq, Prod.mk.injEq] at hr
    obtain ⟨rfl, rfl⟩ := hr
    exact hQ J a w (Inj.Le.refl _) hv rfl R
  | o :: l, k, hk, J, tm, tm', h, h', a, w, hr, R, hv, hQ => by
    simp only [runOps] at hr
    cases hs : stepA C call mode f ops o tm h with
    | none => simp [hs] at hr
    | some vh =>
      obtain ⟨v, h1⟩ := vh
      simp only [hs] at hr
      rw [List.length_cons, List.range'_succ, wpOps_cons]
      refine step_wp F hC hcall (by simpa using (hk 0).symm) hs R hv _ fun J' x w' hle hvx R' => ?_
      refine runOps_sound l (k + 1) (fun j => by have := hk (j + 1); simpa [Nat.add_assoc, Nat.add_comm 1 j] using this) hr R' (put_vrl (hv.le hle) hvx _) fun J'' a' w'' hle' hv'' hd R'' => ?_
      exact hQ J'' a' w'' (hle.trans hle') hv'' (by rw [hd, put_defers]) R''
end
theorem fold_bits (acc : List Nat) (i : Nat) : ∀ (es : List Edge) (s : Nat), (es.foldl (fun s e => if Region.binds .any e then s ||| (2 ^ e.on) ||| acc.getD e.on 0 else s) s).testBit i = true →
    s.testBit i = true ∨ ∃ e ∈ es, Region.binds .any e = true ∧ (i = e.on ∨ (acc.getD e.on 0).testBit i = true)
  | [], s, h => .inl h
  | e :: es, s, h => by
    simp only [List.foldl_cons] at h
    rcases fold_bits acc i es _ h with h1 | ⟨e', he', h1⟩
    · by_cases hb : Region.binds .any e = true
      · simp only [hb, if_true, Nat.testBit_or, Bool.or_eq_true] at h1
        rcases h1 with (h1 | h1) | h1
        · exact .inl h1
        · refine .inr ⟨e, by simp, hb, .inl ?_⟩
          rw [Nat.testBit_two_pow] at h1
          exact (by simpa using h1 : e.on = i).symm
        · exact .inr ⟨e, by simp, hb, .inr h1⟩
      · simp only [hb, Bool.false_eq_true, if_false] at h1
        exact .inl h1
    · exact .inr ⟨e', by simp [he'], h1⟩
theorem masks_get : ∀ (l : List Oper) (acc : List Nat) (j : Nat), (j < acc.length → (masks l acc)[j]? = acc[j]?) ∧
    (acc.length ≤ j → ∀ o, l[j - acc.length]? = some o → ∃ acc' : List Nat, acc'.length = j ∧ (∀ i, i < j → acc'[i]? = (masks l acc)[i]?) ∧
      (masks l acc)[j]? = some (o.after.toList.foldl (fun s e => if Region.binds .any e then s ||| (2 ^ e.on) ||| acc'.getD e.on 0 else s) 0))
  | [], acc, j => ⟨fun _ => rfl, fun _ o h => by simp at h⟩
  | o :: l, acc, j => by
    have ih := masks_get l (acc ++ [o.after.toList.foldl (fun s e => if Region.binds .any e then s ||| (2 ^ e.on) ||| acc.getD e.on 0 else s) 0])
    constructor
    · intro hj
      have := (ih j).1 (by simp; omega)
      simp only [masks]
      rw [this, List.getElem?_append_left hj]
    · intro hj o' ho'
      simp only [masks]
      by_cases he : j = acc.length
      · subst he
        simp only [Nat.sub_self, List.getElem?_cons_zero, Option.some.injEq] at ho'
        subst ho'
        refine ⟨acc, rfl, fun i hi => ?_, ?_⟩
        · rw [(ih i).1 (by simp; omega), List.getElem?_append_left hi]
        · rw [(ih acc.length).1 (by simp), List.getElem?_append_right (Nat.le_refl _)]
          simp
      · have hj' : acc.length + 1 ≤ j := by omega
        refine (ih j).2 (by simpa using hj') o' ?_
        rw [List.length_append, List.length_singleton]
        rw [show j - acc.length = (j - (acc.length + 1)) + 1 by omega] at ho'
        simpa using ho'
theorem ord_closed {ops : List Oper} {X : Nat → Prop} (hlt : ∀ (j : Nat) (o : Oper), ops[j]? = some o → ∀ e ∈ o.after.toList, Region.binds .any e = true → e.on < j)
    (hX : ∀ (j : Nat) (o : Oper), X j → ops[j]? = some o → ∀ e ∈ o.after.toList, Region.binds .any e = true → X e.on) :
    ∀ (j : Nat), X j → j < ops.length → ∀ i, ord (masks ops []) i j = true → X i ∧ i < j := by
  intro j
  induction j using Nat.strongRecOn with
  | _ j ih =>
    intro hj hlen i hi
    have ho := List.getElem?_eq_getElem hlen
    obtain ⟨acc', hl, hacc, hm⟩ := (masks_get ops [] j).2 (Nat.zero_le _) ops[j] (by simp)
    unfold ord at hi
    rw [List.getD_eq_getElem?_getD, hm] at hi
    simp only [Option.getD_some] at hi
    rcases fold_bits acc' i _ _ hi with h1 | ⟨e, he, hb, h1⟩
    · simp at h1
    · have hon := hlt j _ ho e he hb
      have hXe := hX j _ hj ho e he hb
      rcases h1 with rfl | h1
      · exact ⟨hXe, hon⟩
      · have := ih e.on hon hXe (by omega) i (by
          unfold ord
          rw [List.getD_eq_getElem?_getD] at h1 ⊢
          rwa [← hacc e.on hon])
        exact ⟨this.1, by omega⟩
theorem ord_lt {ops : List Oper} (hlt : ∀ (j : Nat) (o : Oper), ops[j]? = some o → ∀ e ∈ o.after.toList, Region.binds .any e = true → e.on < j) {i j : Nat} (hj : j < ops.length)
    (h : ord (masks ops []) i j = true) : i < j :=
  (ord_closed (X := fun _ => True) hlt (fun _ _ _ _ _ _ _ => trivial) j trivial hj i h).2
def putAll (ops : List Oper) (val : Nat → AV) (tm : List AV) (L : List Nat) : List AV :=
  L.foldl (fun tm i => match ops[i]? with
    | some o => putT tm o.dst (val i)
    | none => tm) tm
theorem putT_length (tm : List AV) (d : Option Tmp) (v : AV) : (putT tm d v).length = tm.length := by cases d <;> simp [putT]
theorem putAll_length (ops : List Oper) (val : Nat → AV) : ∀ (L : List Nat) (tm : List AV), (putAll ops val tm L).length = tm.length
  | [], _ => rfl
  | i :: L, tm => by
    simp only [putAll, List.foldl_cons]
    have := putAll_length ops val L (match ops[i]? with | some o => putT tm o.dst (val i) | none => tm)
    simp only [putAll] at this
    rw [this]
    cases ops[i]? <;> simp [putT_length]
def writes (ops : List Oper) (t : Nat) (i : Nat) : Bool :=
  match ops[i]? with
  | some o => o.dst == some t
  | none => false
theorem putAll_get (ops : List Oper) (val : Nat → AV) (t : Nat) : ∀ (L : List Nat) (tm : List AV), (putAll ops val tm L)[t]? =
    match (L.filter (writes ops t)).getLast? with
    | some i => if t < tm.length then some (val i) else none
    | none => tm[t]?
  | [], _ => rfl
  | i :: L, tm => by
    simp only [putAll, List.foldl_cons]
    have ih := putAll_get ops val t L (match ops[i]? with | some o => putT tm o.dst (val i) | none => tm)
    simp only [putAll] at ih
    rw [ih]
    have hlen : (match ops[i]? with | some o => putT tm o.dst (val i) | none => tm).length = tm.length := by cases ops[i]? <;> simp [putT_length]
    by_cases hw : writes ops t i = true
    · rw [List.filter_cons_of_pos hw]
      cases hl : (L.filter (writes ops t)).getLast? with
      | some k =>
        have hne : L.filter (writes ops t) ≠ [] := fun e => by rw [e] at hl; simp at hl
        rw [List.getLast?_cons, hl]
        simp only [hlen, Option.getD_some]
      | none =>
        have he : L.filter (writes ops t) = [] := List.getLast?_eq_none_iff.1 hl
        rw [he]
        simp only [List.getLast?_singleton]
        unfold writes at hw
        cases ho : ops[i]? with
        | none => simp [ho] at hw
        | some o =>
          simp only [ho, beq_iff_eq] at hw
          simp only [putT, hw, List.getElem?_set]
          simp
    · rw [List.filter_cons_of_neg hw]
      simp only [hlen]
      have : (match ops[i]? with | some o => putT tm o.dst (val i) | none => tm)[t]? = tm[t]? := by
        cases ho : ops[i]? with
        | none => rfl
        | some o =>
          simp only
          unfold writes at hw
          simp only [ho, beq_iff_eq] at hw
          cases hd : o.dst with
          | none => rfl
          | some d =>
            simp only [putT, List.getElem?_set]
            rw [if_neg (fun e => hw (by rw [hd, e]))]
      rw [this]
theorem putAll_same (ops : List Oper) (val : Nat → AV) (tm : List AV) (t : Nat) {L L' : List Nat} (h : L.filter (writes ops t) = L'.filter (writes ops t)) :
    (putAll ops val tm L)[t]? = (putAll ops val tm L')[t]? := by
  rw [putAll_get, putAll_get, h]
section
variable {C : Cfg} {call : CallF} {mode : Bool} {f : FuncId}
theorem trace_spec {ops : Array Oper} : ∀ {l : List Oper} {tm : List AV} {h : Heap} {tr : List (List AV × Heap × AV)} {tm' : List AV} {h' : Heap},
    traceOps C call mode f ops l tm h = some (tr, tm', h') → tr.length = l.length ∧
    ∀ i, i < l.length → ∃ o t hp v h2, l[i]? = some o ∧ tr[i]? = some (t, hp, v) ∧ stepA C call mode f ops o t hp = some (v, h2) ∧
      (i = 0 → t = tm ∧ hp = h) ∧
      (∀ t2 hp2 v2, tr[i + 1]? = some (t2, hp2, v2) → t2 = putT t o.dst v ∧ hp2 = h2) ∧ (i + 1 = l.length → tm' = putT t o.dst v ∧ h' = h2)
  | [], tm, h, tr, tm', h', ht => by
    simp only [traceOps, Option.some.injEq, Prod.mk.injEq] at ht
    obtain ⟨rfl, rfl, rfl⟩ := ht
    exact ⟨rfl, fun i hi => by simp at hi⟩
  | o :: l, tm, h, tr, tm', h', ht => by
    simp only [traceOps] at ht
    cases hs : stepA C call mode f ops o tm h with
    | none => simp [hs] at ht
    | some vh =>
      obtain ⟨v, h1⟩ := vh
      simp only [hs] at ht
      cases hr : traceOps C call mode f ops l (putT tm o.dst v) h1 with
      | none => simp [hr] at ht
      | some x =>
        obtain ⟨tr', tm'', h''⟩ := x
        simp only [hr, Option.some.injEq, Prod.mk.injEq] at ht
        obtain ⟨rfl, rfl, rfl⟩ := ht
        obtain ⟨hl, hi⟩ := trace_spec hr
        refine ⟨by simp [hl], fun i hlt => ?_⟩
        cases i with
        | zero =>
          refine ⟨o, tm, h, v, h1, rfl, rfl, hs, fun _ => ⟨rfl, rfl⟩, fun t2 hp2 v2 h2 => ?_, fun hlen => ?_⟩
          · simp only [Nat.zero_add, List.getElem?_cons_succ] at h2
            have hlt2 : 0 < l.length := by have := (List.getElem?_eq_some_iff.1 h2).1; omega
            obtain ⟨o2, t3, hp3, v3, h3, e1, e2, e3, e4, -, -⟩ := hi 0 hlt2
            rw [h2] at e2
            simp only [Option.some.injEq, Prod.mk.injEq] at e2
            obtain ⟨rfl, rfl, rfl⟩ := e2
            exact e4 rfl
          · have : l = [] := List.eq_nil_of_length_eq_zero (by simpa using hlen)
            subst this
            simp only [traceOps, Option.some.injEq, Prod.mk.injEq] at hr
            exact ⟨hr.2.1.symm, hr.2.2.symm⟩
        | succ i =>
          obtain ⟨o2, t, hp, v2, h2, e1, e2, e3, -, e5, e6⟩ := hi i (by simpa using hlt)
          exact ⟨o2, t, hp, v2, h2, by simpa using e1, by simpa using e2, e3, fun h => by omega, fun t2 hp2 v3 h3 => e5 t2 hp2 v3 (by simpa using h3), fun hlen => e6 (by simpa using hlen)⟩
end
end
end Go.Ax
