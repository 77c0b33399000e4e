/- May (function 15). -/
import Derived.Test.YtikenpdhdmbljaaSp1
set_option linter.unusedSimpArgs false
set_option linter.unusedVariables false
set_option linter.unusedSectionVars false
set_option linter.unnecessarySimpa false
namespace Go.Proofs.Sp
open Go.PM Go.Proofs

def st15 (l : List S) (last : Int) (i : Nat) : St := ⟨[(0, .c (.ro 2 (l.map encS))), (2, .c (.lit (.bool false))), (3, .c (.lit (.int .i64 last))), (6, .c (.ro 2 (l.map encS))), (7, .c (.lit (.int .i64 l.length))), (8, .c (.lit (.int .i64 i)))], []⟩

set_option maxHeartbeats 2000000 in
theorem sound15 (l : List S) (hl : l.length ≤ 4611686018427387904) : SoundAt Try.prog 15 [pL l] (pB (may l)) := by
  refine sound_fun (env_ok tT_ok F1_ok _ : EnvOk Try.prog (mkE (specAt F1) [(2, ([0, 2, 3, 6, 7, 8], [], [])), (8, ([0, 2, 3, 6, 7, 8], [], []))])) mixed Try.func15 (by kernel_rfl) rfl (by show 1 ≤ _; decide) (by kernel_rfl) ?_
  show wpC _ _ (Post.ret tT _ _) _
  simp -implicitDefEqProofs only [Try.f15, Try.results15, mkE_T, mkE_S, mkE_live, tT_3, tT_4, tT_22, tT_24, tT_26, tT_44, startS, pL, li, List.zipIdx_cons, List.zipIdx_nil, Nat.zero_add, Nat.reduceAdd, go_sem, ↓reduceIte, Nat.reduceEqDiff, Nat.reduceBEq, Nat.reduceAdd, Nat.reduceMul, Nat.reduceLeDiff, Nat.reduceSub, reduceCtorEq, Nat.reduceLT]
  refine loop_intro (fun n s => ∃ last i, i + n = l.length ∧ may' (-1) l = may' last (l.drop i) ∧ s = st15 l last i) l.length ⟨-1, 0, ?_, ?_, ?_⟩ ?_
  · simp
  · simp
  · simp [st15]
  · rintro n s ⟨last, i, hi, hm, rfl⟩
    simp -implicitDefEqProofs only [st15, mkE_T, mkE_S, mkE_live, tT_3, tT_4, tT_22, tT_24, tT_26, tT_44, go_sem, ↓reduceIte, Nat.reduceEqDiff, Nat.reduceBEq, Nat.reduceAdd, Nat.reduceMul, Nat.reduceLeDiff, Nat.reduceSub, reduceCtorEq, Nat.reduceLT]
    refine cond_intro _ _ _ _ _ (fun hc => ?_) (fun hc => ?_)
    · have hlt : i < l.length := by simpa using hc
      have hx : (l.map encS)[i]? = some (encS l[i]) := by simp [hlt]
      have hdrop : l.drop i = l[i] :: l.drop (i + 1) := List.drop_eq_getElem_cons hlt
      have hw := wrap_nat (n := i) (by omega)
      generalize l[i] = x at hx hdrop
      simp -implicitDefEqProofs only [hx, Int.natCast_nonneg, Int.toNat_natCast, encS, li, mkE_T, mkE_S, mkE_live, tT_3, tT_4, tT_22, tT_24, tT_26, tT_44, F1_23, spec23_at, go_sem, ↓reduceIte, Nat.reduceEqDiff, Nat.reduceBEq, Nat.reduceAdd, Nat.reduceMul, Nat.reduceLeDiff, Nat.reduceSub, reduceCtorEq, Nat.reduceLT]
      refine opsG_intro _ _ _ _ _ _ (fun h1 => ?_) (fun h1 => ?_)
      · simp -implicitDefEqProofs only [mkE_T, mkE_S, mkE_live, tT_3, tT_4, tT_22, tT_24, tT_26, tT_44, go_sem, ↓reduceIte, Nat.reduceEqDiff, Nat.reduceBEq, Nat.reduceAdd, Nat.reduceMul, Nat.reduceLeDiff, Nat.reduceSub, reduceCtorEq, Nat.reduceLT]
        refine cond_intro _ _ _ _ _ (fun h2 => ?_) (fun h2 => ?_)
        · simp -implicitDefEqProofs only [mkE_T, mkE_S, mkE_live, tT_3, tT_4, tT_22, tT_24, tT_26, tT_44, go_sem, ↓reduceIte, Nat.reduceEqDiff, Nat.reduceBEq, Nat.reduceAdd, Nat.reduceMul, Nat.reduceLeDiff, Nat.reduceSub, reduceCtorEq, Nat.reduceLT]
          refine got_c ?_
          simp [may, hm, hdrop, may', h1, h2]
        · simp -implicitDefEqProofs only [mkE_T, mkE_S, mkE_live, tT_3, tT_4, tT_22, tT_24, tT_26, tT_44, hw, go_sem, ↓reduceIte, Nat.reduceEqDiff, Nat.reduceBEq, Nat.reduceAdd, Nat.reduceMul, Nat.reduceLeDiff, Nat.reduceSub, reduceCtorEq, Nat.reduceLT]
          refine ⟨n - 1, by omega, x.u, i + 1, by omega, ?_, rfl⟩
          have h1' : one x = true := by simpa using h1
          have h2' : decide (x.f ≤ last) = false := h2
          rw [hm, hdrop]
          simp only [may', h1', h2', Bool.true_and, Bool.not_false]
      · simp -implicitDefEqProofs only [mkE_T, mkE_S, mkE_live, tT_3, tT_4, tT_22, tT_24, tT_26, tT_44, go_sem, ↓reduceIte, Nat.reduceEqDiff, Nat.reduceBEq, Nat.reduceAdd, Nat.reduceMul, Nat.reduceLeDiff, Nat.reduceSub, reduceCtorEq, Nat.reduceLT]
        refine got_c ?_
        have h1' : one x = false := by simpa using h1
        simp [may, hm, hdrop, may', h1']
    · have hge : l.drop i = [] := List.drop_eq_nil_of_le (by simpa using hc)
      simp -implicitDefEqProofs only [mkE_T, mkE_S, mkE_live, tT_3, tT_4, tT_22, tT_24, tT_26, tT_44, go_sem, ↓reduceIte, Nat.reduceEqDiff, Nat.reduceBEq, Nat.reduceAdd, Nat.reduceMul, Nat.reduceLeDiff, Nat.reduceSub, reduceCtorEq, Nat.reduceLT]
      refine got_c ?_
      simp [may, hm, hge, may']
      omega
noncomputable def spec15 : PM.Spec := specOf (fun l : List S => [pL l]) (fun l => l.length ≤ 4611686018427387904) (fun l => pB (may l))
theorem spec15_at {l : List S} (h : l.length ≤ 4611686018427387904) : spec15 [.c (.ro 2 (l.map encS))] = some (.c (.lit (.bool (may l)))) :=
  specOf_at (arg := fun l : List S => [pL l]) (fun a b h => pL_inj (List.cons.inj h).1) (a := l) h
theorem spec15_ok : ∀ vs r, spec15 vs = some r → SoundAt Try.prog 15 vs r := specOf_sound fun l h => sound15 l h
end Go.Proofs.Sp
