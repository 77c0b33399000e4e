/- Has (14). -/
import Derived.Test.YtikenpdhdmbljaaSp19
set_option linter.unusedSimpArgs false
set_option linter.unusedVariables false
set_option linter.unusedSectionVars false
set_option linter.unnecessarySimpa false
namespace Go.Proofs.Sp
open Go.PM Go.Proofs

noncomputable def spec13 : PM.Spec := specOf (fun x : List S × Int => [pL x.1, pI x.2]) (fun x => x.1.length ≤ 4611686018427387904) (fun x => pI (gap x.1 x.2))
theorem spec13_at {l : List S} (h : l.length ≤ 4611686018427387904) (n : Int) : spec13 [.c (.ro 2 (l.map encS)), .c (.lit (.int .i64 n))] = some (.c (.lit (.int .i64 (gap l n)))) :=
  specOf_at (arg := fun x : List S × Int => [pL x.1, pI x.2]) (fun a b h => Prod.ext (pL_inj (List.cons.inj h).1) (pI_inj (List.cons.inj (List.cons.inj h).2).1)) (a := (l, n)) h
noncomputable def F3 : List (FuncId × PM.Spec) := (13, spec13) :: F2
theorem F3_13 (vs : List PV) : specAt F3 13 vs = spec13 vs := rfl
theorem F3_15 (vs : List PV) : specAt F3 15 vs = spec15 vs := rfl
theorem F3_23 (vs : List PV) : specAt F3 23 vs = spec23 vs := rfl
theorem F3_ok : ∀ x ∈ F3, ∀ vs r, x.2 vs = some r → SoundAt Try.prog x.1 vs r := by
  intro x hx
  rcases List.mem_cons.1 hx with rfl | hx
  · exact specOf_sound fun (x : List S × Int) h => sound13 x.1 x.2 h
  · exact F2_ok x hx

def has (l : List S) (s : S) : Bool := may l && (one s && decide (gap l s.f ≥ s.u))
set_option maxHeartbeats 2000000 in
theorem sound14 (l : List S) (s : S) (hl : l.length ≤ 4611686018427387904) : SoundAt Try.prog 14 [pL l, pS s] (pB (has l s)) := by
  refine sound_fun (env_ok tT_ok F3_ok _ : EnvOk Try.prog (mkE (specAt F3) [])) mixed Try.func14 (by kernel_rfl) rfl (by show 2 ≤ _; decide) (by kernel_rfl) ?_
  show wpC _ _ (Post.ret tT _ _) _
  have h15 := spec15_at hl
  have h13 := spec13_at hl
  simp -implicitDefEqProofs only [Try.f14, Try.results14, mkE_T, mkE_S, mkE_live, tT_3, tT_4, tT_22, tT_24, tT_26, tT_44, startS, pL, pI, pS, li, F3_15, h15, F3_23, spec23_at, List.zipIdx_cons, List.zipIdx_nil, Nat.zero_add, Nat.reduceAdd, go_sem, ↓reduceIte, Nat.reduceEqDiff, Nat.reduceBEq, Nat.reduceAdd, Nat.reduceMul, Nat.reduceLeDiff, Nat.reduceSub, reduceCtorEq, Nat.reduceLT]
  refine opsG_intro _ _ _ _ _ _ (fun h1 => ?_) (fun h1 => ?_)
  · simp -implicitDefEqProofs only [mkE_T, mkE_S, mkE_live, tT_3, tT_4, tT_22, tT_24, tT_26, tT_44, F3_23, spec23_at, go_sem, ↓reduceIte, Nat.reduceEqDiff, Nat.reduceBEq, Nat.reduceAdd, Nat.reduceMul, Nat.reduceLeDiff, Nat.reduceSub, reduceCtorEq, Nat.reduceLT]
    refine cond_intro _ _ _ _ _ (fun h2 => ?_) (fun h2 => ?_)
    · simp -implicitDefEqProofs only [mkE_T, mkE_S, mkE_live, tT_3, tT_4, tT_22, tT_24, tT_26, tT_44, go_sem, ↓reduceIte, Nat.reduceEqDiff, Nat.reduceBEq, Nat.reduceAdd, Nat.reduceMul, Nat.reduceLeDiff, Nat.reduceSub, reduceCtorEq, Nat.reduceLT]
      refine got_c ?_
      have h2' : one s = false := by simpa using h2
      simp [has, h2']
    · simp -implicitDefEqProofs only [mkE_T, mkE_S, mkE_live, tT_3, tT_4, tT_22, tT_24, tT_26, tT_44, F3_13, h13, go_sem, ↓reduceIte, Nat.reduceEqDiff, Nat.reduceBEq, Nat.reduceAdd, Nat.reduceMul, Nat.reduceLeDiff, Nat.reduceSub, reduceCtorEq, Nat.reduceLT]
      refine ⟨by rfl, ?_⟩
      refine got_c ?_
      have h1' : may l = true := by simpa using h1
      have h2' : one s = true := by simpa using h2
      simp [has, h1', h2']
  · simp -implicitDefEqProofs only [mkE_T, mkE_S, mkE_live, tT_3, tT_4, tT_22, tT_24, tT_26, tT_44, go_sem, ↓reduceIte, Nat.reduceEqDiff, Nat.reduceBEq, Nat.reduceAdd, Nat.reduceMul, Nat.reduceLeDiff, Nat.reduceSub, reduceCtorEq, Nat.reduceLT]
    refine got_c ?_
    have h1' : may l = false := by simpa using h1
    simp [has, h1']
end Go.Proofs.Sp
