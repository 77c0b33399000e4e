/- SpansSize, walked. -/
import Derived.Test.YtikenpdhdmbljaaSpLaw4
set_option linter.unusedSimpArgs false
set_option linter.unusedVariables false
set_option linter.unusedSectionVars false
set_option linter.unnecessarySimpa false
namespace Go.Proofs.Sp
open Go.PM Go.Proofs

set_option maxRecDepth 4000 in
set_option maxHeartbeats 4000000 in
theorem law8 (l : List S) (s : S) : SoundAt Try.prog 8 [pL l, pS s] (pB true) := by
  refine sound_fun (env_ok tT_ok (fs_cons spec9_ok (fs_cons spec10_ok (fs_cons spec11_ok (fs_cons spec13_ok (fs_cons spec14_ok (fs_cons spec19_ok fs_nil)))))) _ : EnvOk Try.prog (mkE (specAt [(9, spec9), (10, specR addP), (11, specR cutP), (13, spec13), (14, spec14), (19, spec19)]) [(0, ([0, 3], [(3, 3, 2)], [])), (1, ([0, 3, 5], [(3, 3, 2)], [])), (2, ([0, 3, 5, 25], [(3, 3, 2)], [])), (3, ([4], [], [])), (4, ([0, 3, 6, 7], [(3, 3, 2)], [])), (5, ([0, 3, 6, 7, 8, 9], [(3, 3, 2)], [])), (6, ([0, 3, 6, 8, 44], [(3, 3, 2)], [])), (7, ([4], [], [])), (8, ([0, 3, 6, 8, 10], [(3, 3, 2)], [])), (9, ([0, 3, 6, 10, 11], [(3, 3, 2)], [])), (10, ([0, 3, 6, 10, 11, 12], [(3, 3, 2)], [])), (11, ([4], [], []))])) mixed Try.func8 (by kernel_rfl) rfl (by show 2 ≤ _; decide) (by kernel_rfl) ?_
  show wpC _ _ (Post.ret tT _ _) _
  by_cases hl : l.length ≤ 100
  · have a1 : ¬ (100 : Int) < l.length := by omega
    by_cases h0 : 1099511627776 < s.u
    · simp -implicitDefEqProofs only [Try.f8, Try.results8, startS, pL, pI, pS, pB, li, spec9_at, List.zipIdx_cons, List.zipIdx_nil, a1, h0, go_sem, ↓reduceIte, Nat.reduceEqDiff, Nat.reduceBEq, Nat.reduceAdd, Nat.reduceMul, Nat.reduceLeDiff, Nat.reduceSub, reduceCtorEq, Nat.reduceLT, Int.reduceBEq, Int.reduceBNe, Int.reduceEq, Int.reduceNe, Int.reduceLT, Int.reduceLE]
      exact got_c rfl
    · by_cases hg : may l = true ∧ one s = true
      · obtain ⟨hm, hs⟩ := hg
        obtain ⟨_, m1, n1, k1⟩ := addP_ok hm hs (by omega)
        obtain ⟨_, m3, n3, k3⟩ := cutP_ok hm hs (by omega)
        have hs' := one_iff.1 hs
        obtain ⟨both, b1, b2, b3, b4⟩ := len_add_cut hs (may_iff.1 hm).1
        have r0 := lenL_range (may_iff.1 hm).1
        have r1 := lenL_range (may_iff.1 m1).1
        have r3 := lenL_range (may_iff.1 m3).1
        have z0 := size_at (l := l) (by omega)
        have z1 := size_at (l := addN l s) (by omega)
        have z3 := size_at (l := cutN l s) (by omega)
        rw [size_may hm] at z0
        rw [size_may m1] at z1
        rw [size_may m3] at z3
        have w1 : IntKind.i64.wrap (lenL l - lenL (cutN l s)) = both := by rw [b4, show lenL l - (lenL l - both) = both by omega]; exact w64_id (by omega) (by omega)
        have w2 : IntKind.i64.wrap (s.u - s.f) = s.u - s.f := w64_id (by omega) (by omega)
        have w3 : IntKind.i64.wrap (lenL l + (s.u - s.f)) = lenL l + (s.u - s.f) := w64_id (by omega) (by omega)
        have w4 : IntKind.i64.wrap (lenL l + (s.u - s.f) - both) = lenL (addN l s) := by rw [← b3]; exact w64_id (by omega) (by omega)
        obtain ⟨g1, g2, g3, _⟩ := gap_spec hm (n := s.f) (by omega)
        have e1 := gap_at (l := l) (by omega) s.f
        have e2 := has_at (l := addN l s) (by omega) s.f s.u
        rw [(has_iff m1 hs).2 (fun m p q => by rw [n1, ins_iff.2 ⟨p, q⟩]; simp)] at e2
        have e3 := has_at (l := l) (by omega) s.f s.u
        by_cases c : s.u ≤ gap l s.f
        · rw [(has_iff hm hs).2 (fun m p q => g2 m p (by omega))] at e3
          simp -implicitDefEqProofs only [Try.f8, Try.results8, startS, pL, pI, pS, pB, li, spec9_at, List.zipIdx_cons, List.zipIdx_nil, a1, h0, add_good hm hs (by omega), cut_good hm hs (by omega), z0, z1, z3, w1, w2, w3, w4, b1, b2, g1, e1, e2, e3, c, go_sem, ↓reduceIte, Nat.reduceEqDiff, Nat.reduceBEq, Nat.reduceAdd, Nat.reduceMul, Nat.reduceLeDiff, Nat.reduceSub, reduceCtorEq, Nat.reduceLT, Int.reduceBEq, Int.reduceBNe, Int.reduceEq, Int.reduceNe, Int.reduceLT, Int.reduceLE]
          exact ⟨by rfl, got_c rfl⟩
        · have hh : has l ⟨s.f, s.u⟩ = false := by
            cases hv : has l ⟨s.f, s.u⟩ with
            | false => rfl
            | true => 
              have := (has_iff hm hs).1 hv (gap l s.f) g1 (by omega)
              rw [g3] at this; cases this
          rw [hh] at e3
          simp -implicitDefEqProofs only [Try.f8, Try.results8, startS, pL, pI, pS, pB, li, spec9_at, List.zipIdx_cons, List.zipIdx_nil, a1, h0, add_good hm hs (by omega), cut_good hm hs (by omega), z0, z1, z3, w1, w2, w3, w4, b1, b2, g1, e1, e2, e3, c, go_sem, ↓reduceIte, Nat.reduceEqDiff, Nat.reduceBEq, Nat.reduceAdd, Nat.reduceMul, Nat.reduceLeDiff, Nat.reduceSub, reduceCtorEq, Nat.reduceLT, Int.reduceBEq, Int.reduceBNe, Int.reduceEq, Int.reduceNe, Int.reduceLT, Int.reduceLE]
          exact ⟨by rfl, got_c rfl⟩
      · simp -implicitDefEqProofs only [Try.f8, Try.results8, startS, pL, pI, pS, pB, li, spec9_at, List.zipIdx_cons, List.zipIdx_nil, a1, h0, add_bad hg (by omega), cut_bad hg (by omega), go_sem, ↓reduceIte, Nat.reduceEqDiff, Nat.reduceBEq, Nat.reduceAdd, Nat.reduceMul, Nat.reduceLeDiff, Nat.reduceSub, reduceCtorEq, Nat.reduceLT, Int.reduceBEq, Int.reduceBNe, Int.reduceEq, Int.reduceNe, Int.reduceLT, Int.reduceLE]
        exact got_c rfl
  · have a1 : (100 : Int) < l.length := by omega
    simp -implicitDefEqProofs only [Try.f8, Try.results8, startS, pL, pI, pS, pB, li, spec9_at, List.zipIdx_cons, List.zipIdx_nil, a1, go_sem, ↓reduceIte, Nat.reduceEqDiff, Nat.reduceBEq, Nat.reduceAdd, Nat.reduceMul, Nat.reduceLeDiff, Nat.reduceSub, reduceCtorEq, Nat.reduceLT, Int.reduceBEq, Int.reduceBNe, Int.reduceEq, Int.reduceNe, Int.reduceLT, Int.reduceLE]
    exact got_c rfl
end Go.Proofs.Sp
