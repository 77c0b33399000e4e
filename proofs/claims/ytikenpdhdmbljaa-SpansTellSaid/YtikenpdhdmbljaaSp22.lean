/- The reference's May (22). -/
import Derived.Test.YtikenpdhdmbljaaSp14
set_option linter.unusedSimpArgs false
set_option linter.unusedVariables false
set_option linter.unusedSectionVars false
set_option linter.unnecessarySimpa false
namespace Go.Proofs.Sp
open Go.PM Go.Proofs

def st22 (l : List S) (i : Nat) : St := ⟨[(0, .c (.ro 2 (l.map encS))), (3, .c (.lit (.int .i64 i)))], []⟩
def lastU (l : List S) (i : Nat) : Int := if i = 0 then -1 else ((l[i - 1]?).map S.u).getD 0
theorem wrap_pred {n : Nat} (h : n ≤ 4611686018427387904) (h0 : 0 < n) : IntKind.i64.wrap ((n : Int) - 1) = ((n - 1 : Nat) : Int) := by
  rw [IntKind.wrap_i64]; omega

set_option maxHeartbeats 4000000 in
theorem sound22 (l : List S) (hl : l.length ≤ 4611686018427387904) : SoundAt Try.prog 22 [pL l] (pB (may l)) := by
  refine sound_fun (env_ok tT_ok F3_ok _ : EnvOk Try.prog (mkE (specAt F3) [(1, ([0, 3], [], [])), (3, ([0, 3], [], []))])) mixed Try.func22 (by kernel_rfl) rfl (by show 1 ≤ _; decide) (by kernel_rfl) ?_
  show wpC _ _ (Post.ret tT _ _) _
  have F3_26 : ∀ vs : List PV, specAt F3 26 vs = spec23 vs := fun _ => rfl
  simp -implicitDefEqProofs only [Try.f22, Try.results22, mkE_T, mkE_S, mkE_live, tT_3, tT_4, tT_22, tT_24, tT_26, tT_44, startS, pL, li, List.zipIdx_cons, List.zipIdx_nil, Nat.zero_add, Nat.reduceAdd, go_sem, ↓reduceIte, Nat.reduceEqDiff, Nat.reduceBEq, Nat.reduceAdd, Nat.reduceMul, Nat.reduceLeDiff, Nat.reduceSub, reduceCtorEq, Nat.reduceLT]
  refine loop_intro (fun n s => ∃ i, i + n = l.length ∧ may' (-1) l = may' (lastU l i) (l.drop i) ∧ s = st22 l i) l.length ⟨0, ?_, ?_, ?_⟩ ?_
  · simp
  · simp [lastU]
  · simp [st22]
  · rintro n s ⟨i, hi, hm, rfl⟩
    simp -implicitDefEqProofs only [st22, mkE_T, mkE_S, mkE_live, tT_3, tT_4, tT_22, tT_24, tT_26, tT_44, go_sem, ↓reduceIte, Nat.reduceEqDiff, Nat.reduceBEq, Nat.reduceAdd, Nat.reduceMul, Nat.reduceLeDiff, Nat.reduceSub, reduceCtorEq, Nat.reduceLT]
    refine cond_intro _ _ _ _ _ (fun hc => ?_) (fun hc => ?_)
    · have hlt : i < l.length := by simpa using hc
      have hx : (l.map encS)[i]? = some (encS l[i]) := by simp [hlt]
      have hdrop : l.drop i = l[i] :: l.drop (i + 1) := List.drop_eq_getElem_cons hlt
      have hlast : lastU l (i + 1) = (l[i]).u := by simp [lastU, hlt]
      have hw := wrap_nat (n := i) (by omega)
      generalize l[i] = x at hx hdrop hlast
      simp -implicitDefEqProofs only [hx, Int.natCast_nonneg, Int.toNat_natCast, encS, li, mkE_T, mkE_S, mkE_live, tT_3, tT_4, tT_22, tT_24, tT_26, tT_44, F3_26, spec23_at, go_sem, ↓reduceIte, Nat.reduceEqDiff, Nat.reduceBEq, Nat.reduceAdd, Nat.reduceMul, Nat.reduceLeDiff, Nat.reduceSub, reduceCtorEq, Nat.reduceLT]
      refine opsG_intro _ _ _ _ _ _ (fun h1 => ?_) (fun h1 => ?_)
      · have h1' : one x = true := by simpa using h1
        simp -implicitDefEqProofs only [mkE_T, mkE_S, mkE_live, tT_3, tT_4, tT_22, tT_24, tT_26, tT_44, go_sem, ↓reduceIte, Nat.reduceEqDiff, Nat.reduceBEq, Nat.reduceAdd, Nat.reduceMul, Nat.reduceLeDiff, Nat.reduceSub, reduceCtorEq, Nat.reduceLT]
        refine opsG_intro _ _ _ _ _ _ (fun h2 => ?_) (fun h2 => ?_)
        · have h0 : 0 < i := by simpa using h2
          have hy : (l.map encS)[i - 1]? = some (encS (l[i - 1]'(by omega))) := by simp [show i - 1 < l.length by omega]
          have hly : lastU l i = (l[i - 1]'(by omega)).u := by
            simp [lastU, show i ≠ 0 by omega, show i - 1 < l.length by omega]
          generalize (l[i - 1]'(by omega)) = y at hy hly
          have hw2 := wrap_pred (n := i) (by omega) h0
          simp -implicitDefEqProofs only [hx, hy, hw2, Int.natCast_nonneg, Int.toNat_natCast, encS, li, mkE_T, mkE_S, mkE_live, tT_3, tT_4, tT_22, tT_24, tT_26, tT_44, go_sem, ↓reduceIte, Nat.reduceEqDiff, Nat.reduceBEq, Nat.reduceAdd, Nat.reduceMul, Nat.reduceLeDiff, Nat.reduceSub, reduceCtorEq, Nat.reduceLT]
          refine ⟨by rfl, ?_⟩
          refine cond_intro _ _ _ _ _ (fun h3 => ?_) (fun h3 => ?_)
          · simp -implicitDefEqProofs only [mkE_T, mkE_S, mkE_live, tT_3, tT_4, tT_22, tT_24, tT_26, tT_44, go_sem, ↓reduceIte, Nat.reduceEqDiff, Nat.reduceBEq, Nat.reduceAdd, Nat.reduceMul, Nat.reduceLeDiff, Nat.reduceSub, reduceCtorEq, Nat.reduceLT]
            refine got_c ?_
            simp [may, hm, hdrop, may', hly, h3]
          · simp -implicitDefEqProofs only [mkE_T, mkE_S, mkE_live, tT_3, tT_4, tT_22, tT_24, tT_26, tT_44, hw, go_sem, ↓reduceIte, Nat.reduceEqDiff, Nat.reduceBEq, Nat.reduceAdd, Nat.reduceMul, Nat.reduceLeDiff, Nat.reduceSub, reduceCtorEq, Nat.reduceLT]
            refine ⟨n - 1, by omega, i + 1, by omega, ?_, rfl⟩
            rw [hm, hdrop, hlast]
            have h3' : decide (x.f ≤ lastU l i) = false := by rw [hly]; exact h3
            simp only [may', h1', h3', Bool.true_and, Bool.not_false]
        · have h0 : i = 0 := by simpa using h2
          simp -implicitDefEqProofs only [mkE_T, mkE_S, mkE_live, tT_3, tT_4, tT_22, tT_24, tT_26, tT_44, hw, go_sem, ↓reduceIte, Nat.reduceEqDiff, Nat.reduceBEq, Nat.reduceAdd, Nat.reduceMul, Nat.reduceLeDiff, Nat.reduceSub, reduceCtorEq, Nat.reduceLT]
          refine ⟨by rfl, ?_⟩
          refine ⟨n - 1, by omega, i + 1, by omega, ?_, rfl⟩
          rw [hm, hdrop, hlast]
          have h3' : decide (x.f ≤ lastU l i) = false := by
            have : x.f ≥ 0 := by
              simp only [one, Bool.and_eq_true, decide_eq_true_eq] at h1'
              exact h1'.1
            simp [lastU, h0]; omega
          simp only [may', h1', h3', Bool.true_and, Bool.not_false]
      · have h1' : one x = false := by simpa using h1
        simp -implicitDefEqProofs only [mkE_T, mkE_S, mkE_live, tT_3, tT_4, tT_22, tT_24, tT_26, tT_44, go_sem, ↓reduceIte, Nat.reduceEqDiff, Nat.reduceBEq, Nat.reduceAdd, Nat.reduceMul, Nat.reduceLeDiff, Nat.reduceSub, reduceCtorEq, Nat.reduceLT]
        refine ⟨by rfl, ?_⟩
        refine got_c ?_
        simp [may, hm, hdrop, may', h1']
    · have hge : l.drop i = [] := List.drop_eq_nil_of_le (by simpa using hc)
      simp -implicitDefEqProofs only [mkE_T, mkE_S, mkE_live, tT_3, tT_4, tT_22, tT_24, tT_26, tT_44, go_sem, ↓reduceIte, Nat.reduceEqDiff, Nat.reduceBEq, Nat.reduceAdd, Nat.reduceMul, Nat.reduceLeDiff, Nat.reduceSub, reduceCtorEq, Nat.reduceLT]
      refine got_c ?_
      simp [may, hm, hge, may']
      omega
end Go.Proofs.Sp
