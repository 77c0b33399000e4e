/- Proved: the Go function WeaveShut answers true for every input, does not panic, and leaves what its arguments read as it was. Conditions: those of the given row, and no other. -/
import Derived.Test.YtmmipinjkbkkmaaRows
import Derived.Test.YtmmipinjkbkkmaaWeOpen
import Derived.Test.YtmmipinjkbkkmaaWe13
import Derived.WalkKit
import Derived.ProofKit
import Derived.OpenShut
import Derived.ShutString
import Derived.ChangeOld
import Derived.Below
import Derived.SizedLaws
import Derived.Carry
set_option linter.unusedSimpArgs false
set_option linter.unusedVariables false
set_option linter.unusedSectionVars false
set_option linter.unnecessarySimpa false
namespace Go.Proofs.Ytmmipinjkbkkmaa.weaveShut
open Go.ChangeShapes Go.WideShapes Go.ChangeAt Go.RowKit
open Go.PM Go.Proofs.We
theorem own : ownKnob Try.prog.godebug = none := by kernel_rfl
theorem laidOut : laidOutB Try.prog = true := by kernel_rfl
set_option maxRecDepth 100000 in
theorem lifted (os : Os) (started : os.Started) (H : Type) (enc : TypeId × Value → H) :
    ReturnsInHanded {} Try.checked os 6 .any (Rows.weaveShutSpec.pre6 enc Try.prog Try.f6 Rows.weaveShutRow.domain false) (Rows.weaveShutSpec.post enc Try.prog Try.f6 false true false false) := by
  refine returnsInHanded_of_change_sized (C := Try.checked) own started (by kernel_rfl) Try.func6
    (ChangeSpec.witness6 (enc := enc) (C := Try.checked) false ⟨#[], #[.agg #[.int .i64 0, .slice none 0 0, .slice none 0 0, .int .i64 0, .int .i64 0], .int .i64 0, .slice none 0 0], []⟩ 12 (by kernel_rfl) (by kernel_rfl) (by kernel_rfl) (by kernel_rfl)) ?_
  intro W base args ds gs before hval0 hW hcnd hsz0 _
  have hval : ∀ (j : Nat) t v, Try.f6.params[j]? = some t → args[j]? = some v → Value.okWide Try.prog W .any base t v := hval0
  have hW2 := hW
  obtain ⟨p, q, hA0, hV, rfl, hfz, hnd⟩ := hW
  have hA : DataW.TrodAll enc Try.prog W 0 (fun _ => true) true Try.f6.params.toList args.toList ds p := hA0
  rw [Try.params6] at hA hval
  obtain ⟨v0, vs0, d0, ds0, p0, q0, hargs, rfl, rfl, h0, r0⟩ := trodAll_cons hA
  obtain ⟨v1, vs1, d1, ds1, p1, q1, rfl, rfl, rfl, h1, r1⟩ := trodAll_cons r0
  obtain ⟨v2, vs2, d2, ds2, p2, q2, rfl, rfl, rfl, h2, r2⟩ := trodAll_cons r1
  obtain ⟨rfl, rfl, rfl⟩ := trodAll_nil r2
  obtain rfl : args = #[v0, v1, v2] := by cases args; simp_all
  obtain ⟨rfl, rfl⟩ := trodVars_none hV
  obtain ⟨x0, a0⟩ := argW (hval 0 25 v0 rfl rfl) h0
  have k0 := h0
  have lt0 : ∀ x ∈ p0, x.block < W.heap.size := by obtain ⟨m, hm⟩ := k0; exact DataW.trod_lt m _ _ _ hm
  obtain ⟨x1, a1⟩ := arg3 (hval 1 3 v1 rfl rfl) h1
  have k1 := h1
  have lt1 : ∀ x ∈ p1, x.block < W.heap.size := by obtain ⟨m, hm⟩ := k1; exact DataW.trod_lt m _ _ _ hm
  obtain ⟨x2, a2⟩ := argBy (hval 2 22 v2 rfl rfl) h2
  have k2 := h2
  have lt2 : ∀ x ∈ p2, x.block < W.heap.size := by obtain ⟨m, hm⟩ := k2; exact DataW.trod_lt m _ _ _ hm
  have hs := (lawW6 x0 x1 x2).2 W NoWr [v0, v1, v2] (fun _ h => h.elim) ⟨rfl, fun i p u hp hu => ?_⟩
  · clear hA0 hval0 hsz0
    refine hs.mono fun e W2 he => ?_
    cases e with
    | returned u =>
      obtain ⟨bel, fl, hres⟩ := he
      have hu : u = .bool true := rel_lit hres.val
      subst hu
      exact ⟨_, rfl, _, _, _, [], _, [], hW2, trodAll_mk1 (shut_bool Try.underlying4 _), (trodAll_cons_mk (Below.trod laidOut (by kernel_rfl) (of_decide_eq_true (by kernel_rfl)) k0 bel lt0) (trodAll_cons_mk (Below.trod laidOut (by kernel_rfl) (of_decide_eq_true (by kernel_rfl)) k1 bel lt1) (trodAll_cons_mk (Below.trod laidOut (by kernel_rfl) (of_decide_eq_true (by kernel_rfl)) k2 bel lt2) trodAll_mk0))), rfl, bel.frame _, fun h => by cases h⟩
    | panicked _ => exact he.elim
    | outgrown => exact he.elim
  · match i, hp, hu with
    | 0, hp, hu => cases hp; cases hu; exact ⟨rfl, a0⟩
    | 1, hp, hu => cases hp; cases hu; exact ⟨rfl, a1⟩
    | 2, hp, hu => cases hp; cases hu; exact ⟨rfl, a2⟩
theorem over : Rows.weaveShutRow.holds Try.pinned (OpenSpec.ofChange Rows.weaveShutSpec) :=
  OpenClaim.holds_of_wide 6 Try.f6 rfl rfl rfl rfl rfl rfl rfl ⟨rfl, rfl, rfl, rfl, rfl⟩ rfl rfl rfl rfl rfl (by kernel_rfl) Try.func6 (by kernel_rfl)
    (of_decide_eq_true (by kernel_rfl)) (by unfold Func.isWrapper; first | (rw [if_pos (by decide +kernel)]; kernel_rfl) | (rw [if_neg (by decide +kernel)]; exact ⟨rfl, rfl⟩))
    (fun os started H enc _ => lifted os started H enc)
theorem proved : Rows.WeaveShutSaid := over
end Go.Proofs.Ytmmipinjkbkkmaa.weaveShut
namespace Go.Proofs.Ytmmipinjkbkkmaa
/-- The row, under a short name, for the claim. -/
theorem weaveShut_holds : Rows.WeaveShutSaid := weaveShut.proved
end Go.Proofs.Ytmmipinjkbkkmaa
