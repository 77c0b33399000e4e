/- SpansGap, walked. -/
import Derived.Test.YtikenpdhdmbljaaSpLaw4
set_option linter.unusedSimpArgs false
set_option linter.unusedVariables false
set_option linter.unusedSectionVars false
set_option linter.unnecessarySimpa false
namespace Go.Proofs.Sp
open Go.PM Go.Proofs

set_option maxRecDepth 4000 in
set_option maxHeartbeats 4000000 in
theorem law6 (l : List S) (n : Int) : SoundAt Try.prog 6 [pL l, pI n] (pB true) := by
  refine sound_fun (env_ok tT_ok (fs_cons spec9_ok (fs_cons spec13_ok (fs_cons spec14_ok (fs_cons spec15_ok fs_nil)))) _ : EnvOk Try.prog (mkE (specAt [(9, spec9), (13, spec13), (14, spec14), (15, spec15)]) [(0, ([0, 1], [], [])), (1, ([0, 1, 5], [], [])), (2, ([0, 1, 5, 27], [], [])), (3, ([4], [], [])), (4, ([0, 1, 6], [], [])), (5, ([0, 1, 6, 34], [], [])), (6, ([4], [], [])), (7, ([0, 1, 6, 44], [], [])), (8, ([4], [], [])), (9, ([4], [], []))])) mixed Try.func6 (by kernel_rfl) rfl (by show 2 ≤ _; decide) (by kernel_rfl) ?_
  show wpC _ _ (Post.ret tT _ _) _
  by_cases hl : l.length ≤ 100
  · have a1 : ¬ (100 : Int) < l.length := by omega
    by_cases hm : may l = true
    · by_cases h0 : n < 0
      · simp -implicitDefEqProofs only [Try.f6, Try.results6, startS, pL, pI, pS, pB, li, spec9_at, List.zipIdx_cons, List.zipIdx_nil, a1, h0, hm, may_at (l := l) (by omega), go_sem, ↓reduceIte, Nat.reduceEqDiff, Nat.reduceBEq, Nat.reduceAdd, Nat.reduceMul, Nat.reduceLeDiff, Nat.reduceSub, reduceCtorEq, Nat.reduceLT, Int.reduceBEq, Int.reduceBNe, Int.reduceEq, Int.reduceNe, Int.reduceLT, Int.reduceLE]
        exact got_c rfl
      · by_cases h1 : 4611686018427387904 ≤ n
        · simp -implicitDefEqProofs only [Try.f6, Try.results6, startS, pL, pI, pS, pB, li, spec9_at, List.zipIdx_cons, List.zipIdx_nil, a1, h0, hm, h1, may_at (l := l) (by omega), go_sem, ↓reduceIte, Nat.reduceEqDiff, Nat.reduceBEq, Nat.reduceAdd, Nat.reduceMul, Nat.reduceLeDiff, Nat.reduceSub, reduceCtorEq, Nat.reduceLT, Int.reduceBEq, Int.reduceBNe, Int.reduceEq, Int.reduceNe, Int.reduceLT, Int.reduceLE]
          exact got_c rfl
        · obtain ⟨g1, g2, g3, g4⟩ := gap_spec hm (n := n) (by omega)
          have g4 := g4 (by omega)
          have e1 := gap_at (l := l) (by omega) n
          have b1 : ¬ gap l n < n := by omega
          have h1' : n < 4611686018427387904 := by omega
          simp -implicitDefEqProofs only [Try.f6, Try.results6, startS, pL, pI, pS, pB, li, spec9_at, List.zipIdx_cons, List.zipIdx_nil, a1, h0, hm, h1, may_at (l := l) (by omega), e1, b1, go_sem, ↓reduceIte, Nat.reduceEqDiff, Nat.reduceBEq, Nat.reduceAdd, Nat.reduceMul, Nat.reduceLeDiff, Nat.reduceSub, reduceCtorEq, Nat.reduceLT, Int.reduceBEq, Int.reduceBNe, Int.reduceEq, Int.reduceNe, Int.reduceLT, Int.reduceLE]
          generalize hg : gap l n = g at *
          by_cases c1 : g < 4611686018427387904
          · have w1 : IntKind.i64.wrap (g + 1) = g + 1 := w64_id (by omega) (by omega)
            have e2 := has_at (l := l) (by omega) g (g + 1)
            rw [has_one hm (by omega) c1, g3] at e2
            by_cases c2 : g = n
            · subst c2
              simp -implicitDefEqProofs only [h1', c1, w1, e2, go_sem, ↓reduceIte, Nat.reduceEqDiff, Nat.reduceBEq, Nat.reduceAdd, Nat.reduceMul, Nat.reduceLeDiff, Nat.reduceSub, reduceCtorEq, Nat.reduceLT, Int.reduceBEq, Int.reduceBNe, Int.reduceEq, Int.reduceNe, Int.reduceLT, Int.reduceLE]
              exact got_c rfl
            · have c2 : (g == n) = false := by simpa using c2
              have e3 := has_at (l := l) (by omega) n g
              rw [(has_iff hm (s := ⟨n, g⟩) (one_iff.2 ⟨by show 0 ≤ n; omega, by show n < g; omega, g4⟩)).2 g2] at e3
              simp -implicitDefEqProofs only [h1', c1, c2, w1, e2, e3, go_sem, ↓reduceIte, Nat.reduceEqDiff, Nat.reduceBEq, Nat.reduceAdd, Nat.reduceMul, Nat.reduceLeDiff, Nat.reduceSub, reduceCtorEq, Nat.reduceLT, Int.reduceBEq, Int.reduceBNe, Int.reduceEq, Int.reduceNe, Int.reduceLT, Int.reduceLE]
              exact got_c rfl
          · have e3 := has_at (l := l) (by omega) n g
            rw [(has_iff hm (s := ⟨n, g⟩) (one_iff.2 ⟨by show 0 ≤ n; omega, by show n < g; omega, g4⟩)).2 g2] at e3
            have c2 : (g == n) = false := by simpa using (by omega : ¬ g = n)
            simp -implicitDefEqProofs only [h1', c1, c2, e3, go_sem, ↓reduceIte, Nat.reduceEqDiff, Nat.reduceBEq, Nat.reduceAdd, Nat.reduceMul, Nat.reduceLeDiff, Nat.reduceSub, reduceCtorEq, Nat.reduceLT, Int.reduceBEq, Int.reduceBNe, Int.reduceEq, Int.reduceNe, Int.reduceLT, Int.reduceLE]
            exact got_c rfl
    · have hm : may l = false := by simpa using hm
      simp -implicitDefEqProofs only [Try.f6, Try.results6, startS, pL, pI, pS, pB, li, spec9_at, List.zipIdx_cons, List.zipIdx_nil, a1, hm, may_at (l := l) (by omega), go_sem, ↓reduceIte, Nat.reduceEqDiff, Nat.reduceBEq, Nat.reduceAdd, Nat.reduceMul, Nat.reduceLeDiff, Nat.reduceSub, reduceCtorEq, Nat.reduceLT, Int.reduceBEq, Int.reduceBNe, Int.reduceEq, Int.reduceNe, Int.reduceLT, Int.reduceLE]
      exact got_c rfl
  · have a1 : (100 : Int) < l.length := by omega
    simp -implicitDefEqProofs only [Try.f6, Try.results6, startS, pL, pI, pS, pB, li, spec9_at, List.zipIdx_cons, List.zipIdx_nil, a1, go_sem, ↓reduceIte, Nat.reduceEqDiff, Nat.reduceBEq, Nat.reduceAdd, Nat.reduceMul, Nat.reduceLeDiff, Nat.reduceSub, reduceCtorEq, Nat.reduceLT, Int.reduceBEq, Int.reduceBNe, Int.reduceEq, Int.reduceNe, Int.reduceLT, Int.reduceLE]
    exact got_c rfl
end Go.Proofs.Sp
