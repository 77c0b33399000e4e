/- SpansNumbers, walked. -/
import Derived.Test.YtikenpdhdmbljaaSpLaw4
set_option linter.unusedSimpArgs false
set_option linter.unusedVariables false
set_option linter.unusedSectionVars false
set_option linter.unnecessarySimpa false
namespace Go.Proofs.Sp
open Go.PM Go.Proofs

set_option maxRecDepth 4000 in
set_option maxHeartbeats 4000000 in
theorem law5 (l : List S) (s : S) (n : Int) : SoundAt Try.prog 5 [pL l, pS s, pI n] (pB true) := by
  refine sound_fun (env_ok tT_ok (fs_cons spec9_ok (fs_cons spec10_ok (fs_cons spec11_ok (fs_cons spec14_ok (fs_cons spec15_ok fs_nil))))) _ : EnvOk Try.prog (mkE (specAt [(9, spec9), (10, specR addP), (11, specR cutP), (14, spec14), (15, spec15)]) [(0, ([0, 2, 4], [(4, 4, 2)], [])), (1, ([0, 2, 4, 7], [(4, 4, 2)], [])), (2, ([0, 2, 4, 7, 30], [(4, 4, 2)], [])), (3, ([6], [], [])), (4, ([0, 2, 4, 8, 9], [(4, 4, 2)], [])), (5, ([0, 2, 4, 8, 9, 10, 11], [(4, 4, 2)], [])), (6, ([0, 2, 4, 8, 9, 10, 11, 49], [(4, 4, 2)], [])), (7, ([6], [], [])), (8, ([0, 2, 4, 8, 10, 12], [(4, 4, 2), (12, 12, 2)], [])), (9, ([2, 4, 8, 10, 12, 13], [(4, 4, 2), (12, 12, 2)], [])), (10, ([8, 10, 12, 13, 14], [(12, 12, 2)], [])), (11, ([6], [], []))])) mixed Try.func5 (by kernel_rfl) rfl (by show 3 ≤ _; decide) (by kernel_rfl) ?_
  show wpC _ _ (Post.ret tT _ _) _
  by_cases hl : l.length ≤ 100
  · have a1 : ¬ (100 : Int) < l.length := by omega
    by_cases h0 : n < 0
    · simp -implicitDefEqProofs only [Try.f5, Try.results5, startS, pL, pI, pS, pB, li, spec9_at, List.zipIdx_cons, List.zipIdx_nil, a1, h0, go_sem, ↓reduceIte, Nat.reduceEqDiff, Nat.reduceBEq, Nat.reduceAdd, Nat.reduceMul, Nat.reduceLeDiff, Nat.reduceSub, reduceCtorEq, Nat.reduceLT, Int.reduceBEq, Int.reduceBNe, Int.reduceEq, Int.reduceNe, Int.reduceLT, Int.reduceLE]
      exact got_c rfl
    · by_cases h1 : 4611686018427387904 ≤ n
      · simp -implicitDefEqProofs only [Try.f5, Try.results5, startS, pL, pI, pS, pB, li, spec9_at, List.zipIdx_cons, List.zipIdx_nil, a1, h0, h1, go_sem, ↓reduceIte, Nat.reduceEqDiff, Nat.reduceBEq, Nat.reduceAdd, Nat.reduceMul, Nat.reduceLeDiff, Nat.reduceSub, reduceCtorEq, Nat.reduceLT, Int.reduceBEq, Int.reduceBNe, Int.reduceEq, Int.reduceNe, Int.reduceLT, Int.reduceLE]
        exact got_c rfl
      · by_cases hg : may l = true ∧ one s = true
        · obtain ⟨hm, hs⟩ := hg
          obtain ⟨_, m1, n1, k1⟩ := addP_ok hm hs (by omega)
          obtain ⟨_, m3, n3, k3⟩ := cutP_ok hm hs (by omega)
          have w1 : IntKind.i64.wrap (n + 1) = n + 1 := w64_id (by omega) (by omega)
          have e0 := has_at (l := l) (by omega) n (n + 1)
          have e1 := has_at (l := addN l s) (by omega) n (n + 1)
          have e2 := has_at (l := cutN l s) (by omega) n (n + 1)
          have y1 := may_at (l := addN l s) (by omega)
          have y2 := may_at (l := cutN l s) (by omega)
          rw [has_one hm (by omega) (by omega)] at e0
          rw [has_one m1 (by omega) (by omega), n1] at e1
          rw [has_one m3 (by omega) (by omega), n3] at e2
          rw [m1] at y1
          rw [m3] at y2
          by_cases c1 : s.f ≤ n
          · by_cases c2 : n < s.u
            · have hi : ins s n = true := ins_iff.2 ⟨c1, c2⟩
              rw [hi] at e1 e2
              cases hb : inn l n <;> rw [hb] at e0 e1 e2 <;>
              · simp -implicitDefEqProofs only [Try.f5, Try.results5, startS, pL, pI, pS, pB, li, spec9_at, List.zipIdx_cons, List.zipIdx_nil, a1, h0, h1, add_good hm hs (by omega), cut_good hm hs (by omega), w1, e0, e1, e2, y1, y2, c1, c2, Bool.or_true, Bool.or_false, Bool.and_true, Bool.and_false, Bool.not_true, Bool.not_false, go_sem, ↓reduceIte, Nat.reduceEqDiff, Nat.reduceBEq, Nat.reduceAdd, Nat.reduceMul, Nat.reduceLeDiff, Nat.reduceSub, reduceCtorEq, Nat.reduceLT, Int.reduceBEq, Int.reduceBNe, Int.reduceEq, Int.reduceNe, Int.reduceLT, Int.reduceLE]
                exact got_c rfl
            · have hi : ins s n = false := by simp [ins, c2]
              rw [hi] at e1 e2
              cases hb : inn l n <;> rw [hb] at e0 e1 e2 <;>
              · simp -implicitDefEqProofs only [Try.f5, Try.results5, startS, pL, pI, pS, pB, li, spec9_at, List.zipIdx_cons, List.zipIdx_nil, a1, h0, h1, add_good hm hs (by omega), cut_good hm hs (by omega), w1, e0, e1, e2, y1, y2, c1, c2, Bool.or_true, Bool.or_false, Bool.and_true, Bool.and_false, Bool.not_true, Bool.not_false, go_sem, ↓reduceIte, Nat.reduceEqDiff, Nat.reduceBEq, Nat.reduceAdd, Nat.reduceMul, Nat.reduceLeDiff, Nat.reduceSub, reduceCtorEq, Nat.reduceLT, Int.reduceBEq, Int.reduceBNe, Int.reduceEq, Int.reduceNe, Int.reduceLT, Int.reduceLE]
                exact got_c rfl
          · have hi : ins s n = false := by simp [ins, c1]
            rw [hi] at e1 e2
            cases hb : inn l n <;> rw [hb] at e0 e1 e2 <;>
            · simp -implicitDefEqProofs only [Try.f5, Try.results5, startS, pL, pI, pS, pB, li, spec9_at, List.zipIdx_cons, List.zipIdx_nil, a1, h0, h1, add_good hm hs (by omega), cut_good hm hs (by omega), w1, e0, e1, e2, y1, y2, c1, Bool.or_true, Bool.or_false, Bool.and_true, Bool.and_false, Bool.not_true, Bool.not_false, go_sem, ↓reduceIte, Nat.reduceEqDiff, Nat.reduceBEq, Nat.reduceAdd, Nat.reduceMul, Nat.reduceLeDiff, Nat.reduceSub, reduceCtorEq, Nat.reduceLT, Int.reduceBEq, Int.reduceBNe, Int.reduceEq, Int.reduceNe, Int.reduceLT, Int.reduceLE]
              exact got_c rfl
        · simp -implicitDefEqProofs only [Try.f5, Try.results5, startS, pL, pI, pS, pB, li, spec9_at, List.zipIdx_cons, List.zipIdx_nil, a1, h0, h1, add_bad hg (by omega), cut_bad hg (by omega), go_sem, ↓reduceIte, Nat.reduceEqDiff, Nat.reduceBEq, Nat.reduceAdd, Nat.reduceMul, Nat.reduceLeDiff, Nat.reduceSub, reduceCtorEq, Nat.reduceLT, Int.reduceBEq, Int.reduceBNe, Int.reduceEq, Int.reduceNe, Int.reduceLT, Int.reduceLE]
          exact got_c rfl
  · have a1 : (100 : Int) < l.length := by omega
    simp -implicitDefEqProofs only [Try.f5, Try.results5, startS, pL, pI, pS, pB, li, spec9_at, List.zipIdx_cons, List.zipIdx_nil, a1, go_sem, ↓reduceIte, Nat.reduceEqDiff, Nat.reduceBEq, Nat.reduceAdd, Nat.reduceMul, Nat.reduceLeDiff, Nat.reduceSub, reduceCtorEq, Nat.reduceLT, Int.reduceBEq, Int.reduceBNe, Int.reduceEq, Int.reduceNe, Int.reduceLT, Int.reduceLE]
    exact got_c rfl
end Go.Proofs.Sp
