/- The reference's In (30), Same (12). -/
import Derived.Test.YtikenpdhdmbljaaSp22
set_option linter.unusedSimpArgs false
set_option linter.unusedVariables false
set_option linter.unusedSectionVars false
set_option linter.unnecessarySimpa false
namespace Go.Proofs.Sp
open Go.PM Go.Proofs

def inn (l : List S) (k : Int) : Bool := l.any fun s => decide (s.f ≤ k) && decide (k < s.u)
def st30 (l : List S) (k : Int) (i : Nat) : St := ⟨[(0, .c (.ro 2 (l.map encS))), (1, .c (.lit (.int .i64 k))), (5, .c (.lit (.int .i64 i)))], []⟩
set_option maxHeartbeats 4000000 in
theorem sound30 (l : List S) (k : Int) (hl : l.length ≤ 4611686018427387904) : SoundAt Try.prog 30 [pL l, pI k] (pB (inn l k)) := by
  refine sound_fun (env_ok tT_ok F3_ok _ : EnvOk Try.prog (mkE (specAt F3) [(1, ([0, 1, 5], [], [])), (3, ([0, 1, 5], [], []))])) mixed Try.func30 (by kernel_rfl) rfl (by show 2 ≤ _; decide) (by kernel_rfl) ?_
  show wpC _ _ (Post.ret tT _ _) _
  simp -implicitDefEqProofs only [Try.f30, Try.results30, mkE_T, mkE_S, mkE_live, tT_3, tT_4, tT_22, tT_24, tT_26, tT_44, startS, pL, pI, li, List.zipIdx_cons, List.zipIdx_nil, Nat.zero_add, Nat.reduceAdd, go_sem, ↓reduceIte, Nat.reduceEqDiff, Nat.reduceBEq, Nat.reduceAdd, Nat.reduceMul, Nat.reduceLeDiff, Nat.reduceSub, reduceCtorEq, Nat.reduceLT]
  refine loop_intro (fun n s => ∃ i, i + n = l.length ∧ inn l k = inn (l.drop i) k ∧ s = st30 l k i) l.length ⟨0, ?_, ?_, ?_⟩ ?_
  · simp
  · simp
  · simp [st30]
  · rintro n s ⟨i, hi, hm, rfl⟩
    simp -implicitDefEqProofs only [st30, mkE_T, mkE_S, mkE_live, tT_3, tT_4, tT_22, tT_24, tT_26, tT_44, go_sem, ↓reduceIte, Nat.reduceEqDiff, Nat.reduceBEq, Nat.reduceAdd, Nat.reduceMul, Nat.reduceLeDiff, Nat.reduceSub, reduceCtorEq, Nat.reduceLT]
    refine cond_intro _ _ _ _ _ (fun hc => ?_) (fun hc => ?_)
    · have hlt : i < l.length := by simpa using hc
      have hx : (l.map encS)[i]? = some (encS l[i]) := by simp [hlt]
      have hdrop : l.drop i = l[i] :: l.drop (i + 1) := List.drop_eq_getElem_cons hlt
      have hw := wrap_nat (n := i) (by omega)
      generalize l[i] = x at hx hdrop
      simp -implicitDefEqProofs only [hx, Int.natCast_nonneg, Int.toNat_natCast, encS, li, mkE_T, mkE_S, mkE_live, tT_3, tT_4, tT_22, tT_24, tT_26, tT_44, go_sem, ↓reduceIte, Nat.reduceEqDiff, Nat.reduceBEq, Nat.reduceAdd, Nat.reduceMul, Nat.reduceLeDiff, Nat.reduceSub, reduceCtorEq, Nat.reduceLT]
      refine opsG_intro _ _ _ _ _ _ (fun h1 => ?_) (fun h1 => ?_)
      · simp -implicitDefEqProofs only [hx, Int.natCast_nonneg, Int.toNat_natCast, encS, li, mkE_T, mkE_S, mkE_live, tT_3, tT_4, tT_22, tT_24, tT_26, tT_44, go_sem, ↓reduceIte, Nat.reduceEqDiff, Nat.reduceBEq, Nat.reduceAdd, Nat.reduceMul, Nat.reduceLeDiff, Nat.reduceSub, reduceCtorEq, Nat.reduceLT]
        refine cond_intro _ _ _ _ _ (fun h2 => ?_) (fun h2 => ?_)
        · simp -implicitDefEqProofs only [mkE_T, mkE_S, mkE_live, tT_3, tT_4, tT_22, tT_24, tT_26, tT_44, go_sem, ↓reduceIte, Nat.reduceEqDiff, Nat.reduceBEq, Nat.reduceAdd, Nat.reduceMul, Nat.reduceLeDiff, Nat.reduceSub, reduceCtorEq, Nat.reduceLT]
          refine got_c ?_
          rw [hm, hdrop]
          simp [inn, h1, h2]
        · simp -implicitDefEqProofs only [mkE_T, mkE_S, mkE_live, tT_3, tT_4, tT_22, tT_24, tT_26, tT_44, hw, go_sem, ↓reduceIte, Nat.reduceEqDiff, Nat.reduceBEq, Nat.reduceAdd, Nat.reduceMul, Nat.reduceLeDiff, Nat.reduceSub, reduceCtorEq, Nat.reduceLT]
          refine ⟨n - 1, by omega, i + 1, by omega, ?_, rfl⟩
          rw [hm, hdrop]
          simp [inn, h2]
      · simp -implicitDefEqProofs only [mkE_T, mkE_S, mkE_live, tT_3, tT_4, tT_22, tT_24, tT_26, tT_44, hw, go_sem, ↓reduceIte, Nat.reduceEqDiff, Nat.reduceBEq, Nat.reduceAdd, Nat.reduceMul, Nat.reduceLeDiff, Nat.reduceSub, reduceCtorEq, Nat.reduceLT]
        refine ⟨n - 1, by omega, i + 1, by omega, ?_, rfl⟩
        rw [hm, hdrop]
        have h1' : decide (x.f ≤ k) = false := h1
        simp [inn, h1']
    · have hge : l.drop i = [] := List.drop_eq_nil_of_le (by simpa using hc)
      simp -implicitDefEqProofs only [mkE_T, mkE_S, mkE_live, tT_3, tT_4, tT_22, tT_24, tT_26, tT_44, go_sem, ↓reduceIte, Nat.reduceEqDiff, Nat.reduceBEq, Nat.reduceAdd, Nat.reduceMul, Nat.reduceLeDiff, Nat.reduceSub, reduceCtorEq, Nat.reduceLT]
      refine got_c ?_
      rw [hm, hge]
      simp [inn]
end Go.Proofs.Sp
