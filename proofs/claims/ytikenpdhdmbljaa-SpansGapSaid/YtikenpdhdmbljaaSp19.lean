/- Size (19), Has (14). -/
import Derived.Test.YtikenpdhdmbljaaSp13
set_option linter.unusedSimpArgs false
set_option linter.unusedVariables false
set_option linter.unusedSectionVars false
set_option linter.unnecessarySimpa false
namespace Go.Proofs.Sp
open Go.PM Go.Proofs

def w64 (n : Int) : Int := IntKind.i64.wrap n
def size' : Int → List S → Int
  | n, [] => n
  | n, s :: r => size' (w64 (n + w64 (s.u - s.f))) r
def size (l : List S) : Int := if may l = true then size' 0 l else 0
def st19 (l : List S) (n : Int) (i : Nat) : St := ⟨[(0, .c (.ro 2 (l.map encS))), (3, .c (.lit (.int .i64 n))), (9, .c (.ro 2 (l.map encS))), (10, .c (.lit (.int .i64 l.length))), (11, .c (.lit (.int .i64 i)))], []⟩

set_option maxHeartbeats 2000000 in
theorem sound19 (l : List S) (hl : l.length ≤ 4611686018427387904) : SoundAt Try.prog 19 [pL l] (pI (size l)) := by
  refine sound_fun (env_ok tT_ok F2_ok _ : EnvOk Try.prog (mkE (specAt F2) [(4, ([0, 3, 9, 10, 11], [], [])), (8, ([0, 3, 9, 10, 11], [], []))])) mixed Try.func19 (by kernel_rfl) rfl (by show 1 ≤ _; decide) (by kernel_rfl) ?_
  show wpC _ _ (Post.ret tT _ _) _
  have h15 := spec15_at hl
  simp -implicitDefEqProofs only [Try.f19, Try.results19, mkE_T, mkE_S, mkE_live, tT_3, tT_4, tT_22, tT_24, tT_26, tT_44, startS, pL, pI, li, F2_15, h15, List.zipIdx_cons, List.zipIdx_nil, Nat.zero_add, Nat.reduceAdd, go_sem, ↓reduceIte, Nat.reduceEqDiff, Nat.reduceBEq, Nat.reduceAdd, Nat.reduceMul, Nat.reduceLeDiff, Nat.reduceSub, reduceCtorEq, Nat.reduceLT]
  refine cond_intro _ _ _ _ _ (fun hm => ?_) (fun hm => ?_)
  · simp -implicitDefEqProofs only [mkE_T, mkE_S, mkE_live, tT_3, tT_4, tT_22, tT_24, tT_26, tT_44, go_sem, ↓reduceIte, Nat.reduceEqDiff, Nat.reduceBEq, Nat.reduceAdd, Nat.reduceMul, Nat.reduceLeDiff, Nat.reduceSub, reduceCtorEq, Nat.reduceLT]
    refine got_c ?_
    have hm' : may l = false := by simpa using hm
    simp [size, hm']
  · have hm' : may l = true := by simpa using hm
    simp -implicitDefEqProofs only [mkE_T, mkE_S, mkE_live, tT_3, tT_4, tT_22, tT_24, tT_26, tT_44, go_sem, ↓reduceIte, Nat.reduceEqDiff, Nat.reduceBEq, Nat.reduceAdd, Nat.reduceMul, Nat.reduceLeDiff, Nat.reduceSub, reduceCtorEq, Nat.reduceLT]
    refine loop_intro (fun n s => ∃ k i, i + n = l.length ∧ size l = size' k (l.drop i) ∧ s = st19 l k i) l.length ⟨0, 0, ?_, ?_, ?_⟩ ?_
    · simp
    · simp [size, hm']
    · simp [st19]
    · rintro n s ⟨k, i, hi, hm, rfl⟩
      simp -implicitDefEqProofs only [st19, mkE_T, mkE_S, mkE_live, tT_3, tT_4, tT_22, tT_24, tT_26, tT_44, go_sem, ↓reduceIte, Nat.reduceEqDiff, Nat.reduceBEq, Nat.reduceAdd, Nat.reduceMul, Nat.reduceLeDiff, Nat.reduceSub, reduceCtorEq, Nat.reduceLT]
      refine cond_intro _ _ _ _ _ (fun hc => ?_) (fun hc => ?_)
      · have hlt : i < l.length := by simpa using hc
        have hx : (l.map encS)[i]? = some (encS l[i]) := by simp [hlt]
        have hdrop : l.drop i = l[i] :: l.drop (i + 1) := List.drop_eq_getElem_cons hlt
        have hw := wrap_nat (n := i) (by omega)
        generalize l[i] = x at hx hdrop
        simp -implicitDefEqProofs only [hx, Int.natCast_nonneg, Int.toNat_natCast, encS, li, mkE_T, mkE_S, mkE_live, tT_3, tT_4, tT_22, tT_24, tT_26, tT_44, hw, go_sem, ↓reduceIte, Nat.reduceEqDiff, Nat.reduceBEq, Nat.reduceAdd, Nat.reduceMul, Nat.reduceLeDiff, Nat.reduceSub, reduceCtorEq, Nat.reduceLT]
        refine ⟨n - 1, by omega, w64 (k + w64 (x.u - x.f)), i + 1, by omega, ?_, rfl⟩
        rw [hm, hdrop, size']
      · have hge : l.drop i = [] := List.drop_eq_nil_of_le (by simpa using hc)
        simp -implicitDefEqProofs only [mkE_T, mkE_S, mkE_live, tT_3, tT_4, tT_22, tT_24, tT_26, tT_44, go_sem, ↓reduceIte, Nat.reduceEqDiff, Nat.reduceBEq, Nat.reduceAdd, Nat.reduceMul, Nat.reduceLeDiff, Nat.reduceSub, reduceCtorEq, Nat.reduceLT]
        refine got_c ?_
        rw [hm, hge, size']
end Go.Proofs.Sp
