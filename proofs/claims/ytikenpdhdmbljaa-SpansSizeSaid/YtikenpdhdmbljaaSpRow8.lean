/- Proved: the Go function SpansSize answers true for every input, does not panic, and leaves what its arguments read as it was. Conditions: those of the given row, and no other. -/
import Derived.Test.YtikenpdhdmbljaaRows
import Derived.Test.YtikenpdhdmbljaaSpOpen
import Derived.Test.YtikenpdhdmbljaaSpLaw8
import Derived.WalkKit
import Derived.ProofKit
import Derived.OpenShut
import Derived.ShutString
import Derived.ChangeOld
import Derived.Below
import Derived.SizedLaws
import Derived.Carry
set_option linter.unusedSimpArgs false
set_option linter.unusedVariables false
set_option linter.unusedSectionVars false
set_option linter.unnecessarySimpa false
namespace Go.Proofs.Ytikenpdhdmbljaa.spansSize
open Go.ChangeShapes Go.WideShapes Go.ChangeAt Go.RowKit
open Go.PM Go.Proofs.Sp
theorem own : ownKnob Try.prog.godebug = none := by kernel_rfl
theorem laidOut : laidOutB Try.prog = true := by kernel_rfl
set_option maxRecDepth 100000 in
theorem lifted (os : Os) (started : os.Started) (H : Type) (enc : TypeId × Value → H) :
    ReturnsInHanded {} Try.checked os 8 .any (Rows.spansSizeSpec.pre6 enc Try.prog Try.f8 Rows.spansSizeRow.domain false) (Rows.spansSizeSpec.post enc Try.prog Try.f8 false true false false) := by
  refine returnsInHanded_of_change_sized (C := Try.checked) own started (by kernel_rfl) Try.func8
    (ChangeSpec.witness6 (enc := enc) (C := Try.checked) false ⟨#[], #[.slice none 0 0, .agg #[.int .i64 0, .int .i64 0]], []⟩ 12 (by kernel_rfl) (by kernel_rfl) (by kernel_rfl) (by kernel_rfl)) ?_
  intro W base args ds gs before hval0 hW hcnd hsz0 _
  have hval : ∀ (j : Nat) t v, Try.f8.params[j]? = some t → args[j]? = some v → Value.okWide Try.prog W .any base t v := hval0
  have hW2 := hW
  obtain ⟨p, q, hA0, hV, rfl, hfz, hnd⟩ := hW
  have hA : DataW.TrodAll enc Try.prog W 0 (fun _ => true) true Try.f8.params.toList args.toList ds p := hA0
  rw [Try.params8] at hA hval
  obtain ⟨v0, vs0, d0, ds0, p0, q0, hargs, rfl, rfl, h0, r0⟩ := trodAll_cons hA
  obtain ⟨v1, vs1, d1, ds1, p1, q1, rfl, rfl, rfl, h1, r1⟩ := trodAll_cons r0
  obtain ⟨rfl, rfl, rfl⟩ := trodAll_nil r1
  obtain rfl : args = #[v0, v1] := by cases args; simp_all
  obtain ⟨rfl, rfl⟩ := trodVars_none hV
  obtain ⟨x0, a0⟩ := arg22 (hval 0 22 v0 rfl rfl) h0
  have k0 := h0
  have lt0 : ∀ x ∈ p0, x.block < W.heap.size := by obtain ⟨m, hm⟩ := k0; exact DataW.trod_lt m _ _ _ hm
  obtain ⟨x1, a1⟩ := arg24 (hval 1 24 v1 rfl rfl) h1
  have k1 := h1
  have lt1 : ∀ x ∈ p1, x.block < W.heap.size := by obtain ⟨m, hm⟩ := k1; exact DataW.trod_lt m _ _ _ hm
  have hs := (law8 x0 x1).2 W NoWr [v0, v1] (fun _ h => h.elim) ⟨rfl, fun i p u hp hu => ?_⟩
  · clear hA0 hval0 hsz0
    refine hs.mono fun e W2 he => ?_
    cases e with
    | returned u =>
      obtain ⟨bel, fl, hres⟩ := he
      have hu : u = .bool true := rel_lit hres.val
      subst hu
      exact ⟨_, rfl, _, _, _, [], _, [], hW2, trodAll_mk1 (shut_bool Try.underlying4 _), (trodAll_cons_mk (Below.trod laidOut (by kernel_rfl) (of_decide_eq_true (by kernel_rfl)) k0 bel lt0) (trodAll_cons_mk (Below.trod laidOut (by kernel_rfl) (of_decide_eq_true (by kernel_rfl)) k1 bel lt1) trodAll_mk0)), rfl, bel.frame _, fun h => by cases h⟩
    | panicked _ => exact he.elim
    | outgrown => exact he.elim
  · match i, hp, hu with
    | 0, hp, hu => cases hp; cases hu; exact ⟨rfl, a0⟩
    | 1, hp, hu => cases hp; cases hu; exact ⟨rfl, a1⟩
theorem over : Rows.spansSizeRow.holds Try.pinned (OpenSpec.ofChange Rows.spansSizeSpec) :=
  OpenClaim.holds_of_wide 8 Try.f8 rfl rfl rfl rfl rfl rfl rfl ⟨rfl, rfl, rfl, rfl, rfl⟩ rfl rfl rfl rfl rfl (by kernel_rfl) Try.func8 (by kernel_rfl)
    (of_decide_eq_true (by kernel_rfl)) (by unfold Func.isWrapper; first | (rw [if_pos (by decide +kernel)]; kernel_rfl) | (rw [if_neg (by decide +kernel)]; exact ⟨rfl, rfl⟩))
    (fun os started H enc _ => lifted os started H enc)
theorem proved : Rows.SpansSizeSaid := over
end Go.Proofs.Ytikenpdhdmbljaa.spansSize
namespace Go.Proofs.Ytikenpdhdmbljaa
/-- The row, under a short name, for the claim. -/
theorem spansSize_holds : Rows.SpansSizeSaid := spansSize.proved
end Go.Proofs.Ytikenpdhdmbljaa
