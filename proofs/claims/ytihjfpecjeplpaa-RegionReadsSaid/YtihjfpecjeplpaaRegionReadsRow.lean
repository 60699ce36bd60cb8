/- The law RegionReads of the program is true of every input: the row of the given statement; no condition. -/
import Derived.Test.YtihjfpecjeplpaaRegionReadsP4
import Derived.Test.YtihjfpecjeplpaaRows
import Derived.WalkKit
import Derived.ProofKit
import Derived.OpenShut
import Derived.ShutString
import Derived.ChangeOld
import Derived.Below


namespace Go.Proofs.Ytihjfpecjeplpaa.regionReads
open Go.ChangeShapes Go.WideShapes Go.ChangeAt Go.RowKit
set_option linter.unusedVariables false

theorem own : ownKnob Try.prog.godebug = none := by kernel_rfl
theorem laidOut : laidOutB Try.prog = true := by kernel_rfl

theorem runs (x0 : Go.Ax.AV) (w0 : Go.Ax.Wf Go.Ax.tab 5 x0) (x1 : Go.Ax.AV) (w1 : Go.Ax.Wf Go.Ax.tab 48 x1) (x2 : Go.Ax.AV) (w2 : Go.Ax.Wf Go.Ax.tab 3 x2) (x3 : Go.Ax.AV) (w3 : Go.Ax.Wf Go.Ax.tab 3 x3) (x4 : Go.Ax.AV) (w4 : Go.Ax.Wf Go.Ax.tab 3 x4) :
    ∃ k h', Go.Ax.exFn Go.Ax.C0 Go.Ax.E0 k false 6 [x0, x1, x2, x3, x4] [] = some (.bool true, h') := by
  obtain ⟨n, -, rfl⟩ := w0.u8
  obtain ⟨acts, ha, hl⟩ := w1.acts
  obtain ⟨a, -, rfl⟩ := w2.i64
  obtain ⟨e, -, rfl⟩ := w3.i64
  obtain ⟨g, -, rfl⟩ := w4.i64
  obtain ⟨h', hr⟩ := Go.Ax.reads_law [] n ha hl a e g 10000 (by decide)
  exact ⟨_, h', hr⟩

set_option maxRecDepth 100000 in
theorem lifted (os : Os) (started : os.Started) (H : Type) (enc : TypeId × Value → H) :
    ReturnsInHanded {} Try.checked os 6 .any (Rows.regionReadsSpec.pre6 enc Try.prog Try.f6 Rows.regionReadsRow.domain false) (Rows.regionReadsSpec.post enc Try.prog Try.f6 false true false false) := by
  refine returnsInHanded_of_change (C := Try.checked) own started (by kernel_rfl) Try.func6
    (ChangeSpec.witness6 (enc := enc) (C := Try.checked) false ⟨#[], #[.int .u8 0, .slice none 0 0, .int .i64 0, .int .i64 0, .int .i64 0], []⟩ 8 (by kernel_rfl) (by kernel_rfl) (by kernel_rfl) (by kernel_rfl)) ?_
  intro W base args ds gs before hval0 hW hcnd _
  have hval : ∀ (j : Nat) t v, Try.f6.params[j]? = some t → args[j]? = some v → Value.okWide Try.prog W .any base t v := hval0
  have hW' := hW
  obtain ⟨p, q, hA0, hV, rfl, hfz, hnd⟩ := hW
  have hA : DataW.TrodAll enc Try.prog W 0 (fun _ => true) true Try.f6.params.toList args.toList ds p := hA0
  rw [Try.params6] at hA hval
  have hA2 := hA
  obtain ⟨v0, vs0, d0, ds0, p0, q0, hargs, rfl, rfl, h0, r0⟩ := trodAll_cons hA
  obtain ⟨v1, vs1, d1, ds1, p1, q1, rfl, rfl, rfl, h1, r1⟩ := trodAll_cons r0
  obtain ⟨v2, vs2, d2, ds2, p2, q2, rfl, rfl, rfl, h2, r2⟩ := trodAll_cons r1
  obtain ⟨v3, vs3, d3, ds3, p3, q3, rfl, rfl, rfl, h3, r3⟩ := trodAll_cons r2
  obtain ⟨v4, vs4, d4, ds4, p4, q4, rfl, rfl, rfl, h4, r4⟩ := trodAll_cons r3
  obtain ⟨rfl, rfl, rfl⟩ := trodAll_nil r4
  obtain rfl : args = #[v0, v1, v2, v3, v4] := by cases args; simp_all
  obtain ⟨rfl, rfl⟩ := trodVars_none hV
  obtain ⟨xs, hx, hl, hws⟩ := Go.Ax.open_args (n := 12) Go.Ax.tab_fits [5, 48, 3, 3, 3] [v0, v1, v2, v3, v4] _ _ hA2 (fun j t v ht hv => hval j t v (by simpa using ht) (by simpa using hv)) (by kernel_rfl)
  obtain ⟨x0, x1, x2, x3, x4, rfl⟩ : ∃ x0 x1 x2 x3 x4, xs = [x0, x1, x2, x3, x4] := by
    match xs, hl with
    | [x0, x1, x2, x3, x4], _ => exact ⟨x0, x1, x2, x3, x4, rfl⟩
  obtain ⟨k, h', hr⟩ := runs x0 (hws 0 _ _ rfl rfl) x1 (hws 1 _ _ rfl rfl) x2 (hws 2 _ _ rfl rfl) x3 (hws 3 _ _ rfl rfl) x4 (hws 4 _ _ rfl rfl)
  clear hA0 hval0
  refine (Go.Ax.law_calls_any Go.Ax.e6 hr hx).mono fun e W' ⟨he, bel⟩ => ?_
  obtain ⟨qs, hq⟩ := Go.Ax.all_stay (enc := enc) laidOut bel _ _ _ _ hA2 (by kernel_rfl)
  subst he
  exact ⟨_, rfl, _, _, _, [], _, [], hW', trodAll_mk1 (shut_bool Try.underlying4 _), hq, rfl, bel.frame _, fun h => by cases h⟩

theorem over : Rows.regionReadsRow.holds Try.pinned (OpenSpec.ofChange Rows.regionReadsSpec) :=
  OpenClaim.holds_of_wide 6 Try.f6 rfl rfl rfl rfl rfl rfl rfl ⟨rfl, rfl, rfl, rfl, rfl⟩ rfl rfl rfl rfl rfl (by kernel_rfl) Try.func6 (by kernel_rfl)
    (of_decide_eq_true (by kernel_rfl)) (by unfold Func.isWrapper; first | (rw [if_pos (by decide +kernel)]; kernel_rfl) | (rw [if_neg (by decide +kernel)]; exact ⟨rfl, rfl⟩))
    (fun os started H enc _ => lifted os started H enc)

/-- The statement. -/
theorem proved : Rows.RegionReadsSaid := over
end Go.Proofs.Ytihjfpecjeplpaa.regionReads
