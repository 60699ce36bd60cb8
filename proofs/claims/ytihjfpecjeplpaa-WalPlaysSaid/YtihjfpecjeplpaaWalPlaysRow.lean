/- The law WalPlays of the program is true of every input: the row of the given statement; no condition. -/
import Derived.Test.YtihjfpecjeplpaaWalPlaysP5
import Derived.Test.YtihjfpecjeplpaaRows
import Derived.WalkKit
import Derived.ProofKit
import Derived.OpenShut
import Derived.ShutString
import Derived.ChangeOld
import Derived.Below


namespace Go.Proofs.Ytihjfpecjeplpaa.walPlays
open Go.ChangeShapes Go.WideShapes Go.ChangeAt Go.RowKit
set_option linter.unusedVariables false

theorem own : ownKnob Try.prog.godebug = none := by kernel_rfl
theorem laidOut : laidOutB Try.prog = true := by kernel_rfl

theorem runs (x0 : Go.Ax.AV) (w0 : Go.Ax.Wf Go.Ax.tab 5 x0) (x1 : Go.Ax.AV) (w1 : Go.Ax.Wf Go.Ax.tab 65 x1) :
    ∃ k h', Go.Ax.exFn Go.Ax.C0 Go.Ax.E0 k false 10 [x0, x1] [] = some (.bool true, h') := by
  obtain ⟨n, -, rfl⟩ := w0.u8
  obtain ⟨acts, ha⟩ := w1.dos
  obtain ⟨h', hr⟩ := Go.Ax.plays_law [] n ha 30000 (by decide)
  exact ⟨_, h', hr⟩

set_option maxRecDepth 100000 in
theorem lifted (os : Os) (started : os.Started) (H : Type) (enc : TypeId × Value → H) :
    ReturnsInHanded {} Try.checked os 10 .any (Rows.walPlaysSpec.pre6 enc Try.prog Try.f10 Rows.walPlaysRow.domain false) (Rows.walPlaysSpec.post enc Try.prog Try.f10 false true false false) := by
  refine returnsInHanded_of_change (C := Try.checked) own started (by kernel_rfl) Try.func10
    (ChangeSpec.witness6 (enc := enc) (C := Try.checked) false ⟨#[], #[.int .u8 0, .slice none 0 0], []⟩ 8 (by kernel_rfl) (by kernel_rfl) (by kernel_rfl) (by kernel_rfl)) ?_
  intro W base args ds gs before hval0 hW hcnd _
  have hval : ∀ (j : Nat) t v, Try.f10.params[j]? = some t → args[j]? = some v → Value.okWide Try.prog W .any base t v := hval0
  have hW' := hW
  obtain ⟨p, q, hA0, hV, rfl, hfz, hnd⟩ := hW
  have hA : DataW.TrodAll enc Try.prog W 0 (fun _ => true) true Try.f10.params.toList args.toList ds p := hA0
  rw [Try.params10] at hA hval
  have hA2 := hA
  obtain ⟨v0, vs0, d0, ds0, p0, q0, hargs, rfl, rfl, h0, r0⟩ := trodAll_cons hA
  obtain ⟨v1, vs1, d1, ds1, p1, q1, rfl, rfl, rfl, h1, r1⟩ := trodAll_cons r0
  obtain ⟨rfl, rfl, rfl⟩ := trodAll_nil r1
  obtain rfl : args = #[v0, v1] := by cases args; simp_all
  obtain ⟨rfl, rfl⟩ := trodVars_none hV
  obtain ⟨xs, hx, hl, hws⟩ := Go.Ax.open_args (n := 12) Go.Ax.tab_fits [5, 65] [v0, v1] _ _ hA2 (fun j t v ht hv => hval j t v (by simpa using ht) (by simpa using hv)) (by kernel_rfl)
  obtain ⟨x0, x1, rfl⟩ : ∃ x0 x1, xs = [x0, x1] := by
    match xs, hl with
    | [x0, x1], _ => exact ⟨x0, x1, rfl⟩
  obtain ⟨k, h', hr⟩ := runs x0 (hws 0 _ _ rfl rfl) x1 (hws 1 _ _ rfl rfl)
  clear hA0 hval0
  refine (Go.Ax.law_calls_any Go.Ax.e10 hr hx).mono fun e W' ⟨he, bel⟩ => ?_
  obtain ⟨qs, hq⟩ := Go.Ax.all_stay (enc := enc) laidOut bel _ _ _ _ hA2 (by kernel_rfl)
  subst he
  exact ⟨_, rfl, _, _, _, [], _, [], hW', trodAll_mk1 (shut_bool Try.underlying4 _), hq, rfl, bel.frame _, fun h => by cases h⟩

theorem over : Rows.walPlaysRow.holds Try.pinned (OpenSpec.ofChange Rows.walPlaysSpec) :=
  OpenClaim.holds_of_wide 10 Try.f10 rfl rfl rfl rfl rfl rfl rfl ⟨rfl, rfl, rfl, rfl, rfl⟩ rfl rfl rfl rfl rfl (by kernel_rfl) Try.func10 (by kernel_rfl)
    (of_decide_eq_true (by kernel_rfl)) (by unfold Func.isWrapper; first | (rw [if_pos (by decide +kernel)]; kernel_rfl) | (rw [if_neg (by decide +kernel)]; exact ⟨rfl, rfl⟩))
    (fun os started H enc _ => lifted os started H enc)

/-- The statement. -/
theorem proved : Rows.WalPlaysSaid := over
end Go.Proofs.Ytihjfpecjeplpaa.walPlays
