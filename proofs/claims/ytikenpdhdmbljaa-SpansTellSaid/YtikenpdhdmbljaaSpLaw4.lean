/- SpansApart, walked. -/
import Derived.Test.YtikenpdhdmbljaaSpLaw
set_option linter.unusedSimpArgs false
set_option linter.unusedVariables false
set_option linter.unusedSectionVars false
set_option linter.unnecessarySimpa false
namespace Go.Proofs.Sp
open Go.PM Go.Proofs

theorem gap_at {l : List S} (hl : l.length ≤ 2000) (n : Int) : spec13 [.c (.ro 2 (l.map encS)), .c (.lit (.int .i64 n))] = some (.c (.lit (.int .i64 (gap l n)))) := spec13_at (by omega) n
theorem has_at {l : List S} (hl : l.length ≤ 2000) (f u : Int) : spec14 [.c (.ro 2 (l.map encS)), .agg [.c (.lit (.int .i64 f)), .c (.lit (.int .i64 u))]] = some (.c (.lit (.bool (has l ⟨f, u⟩)))) := spec14_at (by omega) f u
theorem may_at {l : List S} (hl : l.length ≤ 2000) : spec15 [.c (.ro 2 (l.map encS))] = some (.c (.lit (.bool (may l)))) := spec15_at (by omega)
theorem size_at {l : List S} (hl : l.length ≤ 2000) : spec19 [.c (.ro 2 (l.map encS))] = some (.c (.lit (.int .i64 (size l)))) := spec19_at (by omega)
theorem gap_stay {l : List S} {n : Int} (h : may l = true) (hn : 0 ≤ n) (hi : inn l n = false) : gap l n = n := by
  obtain ⟨h1, h2, _⟩ := gap_spec h hn
  by_cases hc : gap l n = n
  · exact hc
  · have := h2 n (by omega) (by omega)
    rw [hi] at this; cases this

set_option maxRecDepth 4000 in
set_option maxHeartbeats 4000000 in
theorem law4 (l : List S) (s : S) : SoundAt Try.prog 4 [pL l, pS s] (pB true) := by
  refine sound_fun (env_ok tT_ok (fs_cons spec9_ok (fs_cons spec10_ok (fs_cons spec11_ok (fs_cons spec12_ok (fs_cons spec13_ok fs_nil))))) _ : EnvOk Try.prog (mkE (specAt [(9, spec9), (10, specR addP), (11, specR cutP), (12, spec12), (13, spec13)]) [(0, ([0, 3], [(3, 3, 2)], [])), (1, ([0, 3, 5], [(3, 3, 2)], [])), (2, ([0, 3, 5, 23], [(3, 3, 2)], [])), (3, ([4], [], [])), (4, ([0, 3, 6, 7], [(3, 3, 2)], [])), (5, ([0, 3, 6, 7, 8, 9], [(3, 3, 2)], [])), (6, ([0, 3, 6, 7, 8, 9, 42], [(3, 3, 2)], [])), (7, ([4], [], [])), (8, ([0, 3, 6, 8, 10, 11], [(3, 3, 2)], [])), (9, ([0, 3, 6, 8, 10, 11, 12, 13], [(3, 3, 2)], [])), (10, ([0, 3, 6, 11, 12, 13, 14], [(3, 3, 2)], [])), (11, ([0, 3, 6, 11, 13, 14, 15], [(3, 3, 2)], [])), (12, ([4], [], []))])) mixed Try.func4 (by kernel_rfl) rfl (by show 2 ≤ _; decide) (by kernel_rfl) ?_
  show wpC _ _ (Post.ret tT _ _) _
  simp -implicitDefEqProofs only [Try.f4, Try.results4, startS, pL, pI, pS, pB, li, spec9_at, List.zipIdx_cons, List.zipIdx_nil, go_sem, ↓reduceIte, Nat.reduceEqDiff, Nat.reduceBEq, Nat.reduceAdd, Nat.reduceMul, Nat.reduceLeDiff, Nat.reduceSub, reduceCtorEq, Nat.reduceLT, Int.reduceBEq, Int.reduceBNe, Int.reduceEq, Int.reduceNe, Int.reduceLT, Int.reduceLE]
  refine cond_intro _ _ _ _ _ (fun hc => ?_) (fun hc => ?_)
  · simp -implicitDefEqProofs only [go_sem, ↓reduceIte, Nat.reduceEqDiff, Nat.reduceBEq, Nat.reduceAdd, Nat.reduceMul, Nat.reduceLeDiff, Nat.reduceSub, reduceCtorEq, Nat.reduceLT, Int.reduceBEq, Int.reduceBNe, Int.reduceEq, Int.reduceNe, Int.reduceLT, Int.reduceLE]
    exact got_c rfl
  · have hl : l.length ≤ 100 := by
      have : ¬ (100 : Int) < l.length := by simpa using hc
      omega
    clear hc
    by_cases h1 : may l = true ∧ one s = true
    · obtain ⟨hm, hs⟩ := h1
      obtain ⟨_, m1, n1, k1⟩ := addP_ok hm hs (by omega)
      obtain ⟨_, m3, n3, k3⟩ := cutP_ok hm hs (by omega)
      obtain ⟨_, m4, n4, k4⟩ := addP_ok m3 hs (by omega)
      obtain ⟨_, m7, n7, k7⟩ := cutP_ok m3 hs (by omega)
      have e1 := same_good (a := addN (cutN l s) s) (b := addN l s) (may_ext m4 m1 fun n => by rw [n4, n1, n3]; cases inn l n <;> cases ins s n <;> rfl) (by omega)
      have e3 := same_good (a := cutN (cutN l s) s) (b := cutN l s) (may_ext m7 m3 fun n => by rw [n7, n3]; cases inn l n <;> cases ins s n <;> rfl) (by omega)
      have hs' := one_iff.1 hs
      have e4 := gap_at (l := cutN l s) (by omega) s.f
      rw [gap_stay m3 hs'.1 (by rw [n3, ins_iff.2 (by omega)]; simp)] at e4
      have w1 : IntKind.i64.wrap ((l.length : Int) + 1) = (l.length : Int) + 1 := w64_id (by omega) (by omega)
      have w2 : ((cutN l s).length : Int) ≤ (l.length : Int) + 1 := by omega
      simp -implicitDefEqProofs only [add_good hm hs (by omega), add_good m3 hs (by omega), cut_good m3 hs (by omega), cut_good hm hs (by omega), e1, e3, e4, w1, w2, go_sem, ↓reduceIte, Nat.reduceEqDiff, Nat.reduceBEq, Nat.reduceAdd, Nat.reduceMul, Nat.reduceLeDiff, Nat.reduceSub, reduceCtorEq, Nat.reduceLT, Int.reduceBEq, Int.reduceBNe, Int.reduceEq, Int.reduceNe, Int.reduceLT, Int.reduceLE]
      exact ⟨by rfl, got_c rfl⟩
    · simp -implicitDefEqProofs only [add_bad h1 (by omega), cut_bad h1 (by omega), go_sem, ↓reduceIte, Nat.reduceEqDiff, Nat.reduceBEq, Nat.reduceAdd, Nat.reduceMul, Nat.reduceLeDiff, Nat.reduceSub, reduceCtorEq, Nat.reduceLT, Int.reduceBEq, Int.reduceBNe, Int.reduceEq, Int.reduceNe, Int.reduceLT, Int.reduceLE]
      exact got_c rfl
end Go.Proofs.Sp
