/- one (function 23), and the reference's One (26). -/
import Derived.Test.YtikenpdhdmbljaaSpBase
set_option linter.unusedSimpArgs false
set_option linter.unusedVariables false
set_option linter.unusedSectionVars false
set_option linter.unnecessarySimpa false
namespace Go.Proofs.Sp
open Go.PM Go.Proofs

def E0 : Env := mkE (specAt []) []
set_option maxHeartbeats 1000000 in
theorem sound23 (s : S) : SoundAt Try.prog 23 [pS s] (pB (one s)) := by
  refine sound_fun (env_ok tT_ok (by simp) _ : EnvOk Try.prog (mkE (specAt []) [])) mixed Try.func23 (by kernel_rfl) rfl (by show 1 ≤ _; decide) (by kernel_rfl) ?_
  show wpC _ _ (Post.ret tT _ _) _
  simp -implicitDefEqProofs only [Try.f23, Try.results23, mkE_T, mkE_S, mkE_live, tT_3, tT_4, tT_22, tT_24, tT_26, tT_44, startS, pS, li, List.zipIdx_cons, List.zipIdx_nil, Nat.zero_add, Nat.reduceAdd, go_sem, ↓reduceIte, Nat.reduceEqDiff, Nat.reduceBEq, Nat.reduceAdd, Nat.reduceMul, Nat.reduceLeDiff, Nat.reduceSub, reduceCtorEq, Nat.reduceLT]
  refine opsG_intro _ _ _ _ _ _ (fun h1 => ?_) (fun h1 => ?_)
  · simp -implicitDefEqProofs only [mkE_T, mkE_S, mkE_live, tT_3, tT_4, tT_22, tT_24, tT_26, tT_44, go_sem, ↓reduceIte, Nat.reduceEqDiff, Nat.reduceBEq, Nat.reduceAdd, Nat.reduceMul, Nat.reduceLeDiff, Nat.reduceSub, reduceCtorEq, Nat.reduceLT]
    refine opsG_intro _ _ _ _ _ _ (fun h2 => ?_) (fun h2 => ?_)
    · simp -implicitDefEqProofs only [mkE_T, mkE_S, mkE_live, tT_3, tT_4, tT_22, tT_24, tT_26, tT_44, go_sem, ↓reduceIte, Nat.reduceEqDiff, Nat.reduceBEq, Nat.reduceAdd, Nat.reduceMul, Nat.reduceLeDiff, Nat.reduceSub, reduceCtorEq, Nat.reduceLT]
      exact got_c (by simp only [one, h1, h2, Bool.true_and])
    · simp -implicitDefEqProofs only [mkE_T, mkE_S, mkE_live, tT_3, tT_4, tT_22, tT_24, tT_26, tT_44, go_sem, ↓reduceIte, Nat.reduceEqDiff, Nat.reduceBEq, Nat.reduceAdd, Nat.reduceMul, Nat.reduceLeDiff, Nat.reduceSub, reduceCtorEq, Nat.reduceLT]
      exact got_c (by simp only [one, h1, h2]; rfl)
  · simp -implicitDefEqProofs only [mkE_T, mkE_S, mkE_live, tT_3, tT_4, tT_22, tT_24, tT_26, tT_44, go_sem, ↓reduceIte, Nat.reduceEqDiff, Nat.reduceBEq, Nat.reduceAdd, Nat.reduceMul, Nat.reduceLeDiff, Nat.reduceSub, reduceCtorEq, Nat.reduceLT]
    exact got_c (by simp only [one, h1]; rfl)
set_option maxHeartbeats 1000000 in
theorem sound26 (s : S) : SoundAt Try.prog 26 [pS s] (pB (one s)) := by
  refine sound_fun (env_ok tT_ok (by simp) _ : EnvOk Try.prog (mkE (specAt []) [])) mixed Try.func26 (by kernel_rfl) rfl (by show 1 ≤ _; decide) (by kernel_rfl) ?_
  show wpC _ _ (Post.ret tT _ _) _
  simp -implicitDefEqProofs only [Try.f26, Try.results26, mkE_T, mkE_S, mkE_live, tT_3, tT_4, tT_22, tT_24, tT_26, tT_44, startS, pS, li, List.zipIdx_cons, List.zipIdx_nil, Nat.zero_add, Nat.reduceAdd, go_sem, ↓reduceIte, Nat.reduceEqDiff, Nat.reduceBEq, Nat.reduceAdd, Nat.reduceMul, Nat.reduceLeDiff, Nat.reduceSub, reduceCtorEq, Nat.reduceLT]
  refine opsG_intro _ _ _ _ _ _ (fun h1 => ?_) (fun h1 => ?_)
  · simp -implicitDefEqProofs only [mkE_T, mkE_S, mkE_live, tT_3, tT_4, tT_22, tT_24, tT_26, tT_44, go_sem, ↓reduceIte, Nat.reduceEqDiff, Nat.reduceBEq, Nat.reduceAdd, Nat.reduceMul, Nat.reduceLeDiff, Nat.reduceSub, reduceCtorEq, Nat.reduceLT]
    refine opsG_intro _ _ _ _ _ _ (fun h2 => ?_) (fun h2 => ?_)
    · simp -implicitDefEqProofs only [mkE_T, mkE_S, mkE_live, tT_3, tT_4, tT_22, tT_24, tT_26, tT_44, go_sem, ↓reduceIte, Nat.reduceEqDiff, Nat.reduceBEq, Nat.reduceAdd, Nat.reduceMul, Nat.reduceLeDiff, Nat.reduceSub, reduceCtorEq, Nat.reduceLT]
      exact got_c (by have h2' : decide (s.f < s.u) = true := h2; simp only [one, h1, h2', Bool.true_and])
    · simp -implicitDefEqProofs only [mkE_T, mkE_S, mkE_live, tT_3, tT_4, tT_22, tT_24, tT_26, tT_44, go_sem, ↓reduceIte, Nat.reduceEqDiff, Nat.reduceBEq, Nat.reduceAdd, Nat.reduceMul, Nat.reduceLeDiff, Nat.reduceSub, reduceCtorEq, Nat.reduceLT]
      exact got_c (by have h2' : decide (s.f < s.u) = false := h2; simp only [one, h1, h2']; rfl)
  · simp -implicitDefEqProofs only [mkE_T, mkE_S, mkE_live, tT_3, tT_4, tT_22, tT_24, tT_26, tT_44, go_sem, ↓reduceIte, Nat.reduceEqDiff, Nat.reduceBEq, Nat.reduceAdd, Nat.reduceMul, Nat.reduceLeDiff, Nat.reduceSub, reduceCtorEq, Nat.reduceLT]
    exact got_c (by simp only [one, h1]; rfl)

noncomputable def spec23 : PM.Spec := specOf (fun s : S => [pS s]) (fun _ => True) (fun s => pB (one s))
theorem spec23_at (a b : Int) : spec23 [.agg [.c (.lit (.int .i64 a)), .c (.lit (.int .i64 b))]] = some (.c (.lit (.bool (one ⟨a, b⟩)))) :=
  specOf_at (arg := fun s : S => [pS s]) (pre := fun _ => True) (fun a b h => pS_inj (List.cons.inj h).1) (a := ⟨a, b⟩) trivial
noncomputable def F1 : List (FuncId × PM.Spec) := [(23, spec23), (26, spec23)]
theorem F1_23 (vs : List PV) : specAt F1 23 vs = spec23 vs := rfl
theorem F1_26 (vs : List PV) : specAt F1 26 vs = spec23 vs := rfl
theorem F1_ok : ∀ x ∈ F1, ∀ vs r, x.2 vs = some r → SoundAt Try.prog x.1 vs r := by
  intro x hx
  simp only [F1, List.mem_cons, List.not_mem_nil, or_false] at hx
  rcases hx with rfl | rfl
  · exact specOf_sound fun s _ => sound23 s
  · exact specOf_sound fun s _ => sound26 s
end Go.Proofs.Sp
